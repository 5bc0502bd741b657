/-
  Package rowset: Family, Product, Minimal.
-/
import Derived.Test.YtomdjkcoodaheaaGreatDoorCj
set_option linter.unusedSectionVars false
set_option linter.unusedSimpArgs false
set_option linter.unusedVariables false
set_option maxRecDepth 10000
set_option maxHeartbeats 4000000
set_option linter.unusedVariables false
set_option linter.unusedSimpArgs false
set_option linter.unusedSectionVars false
namespace Go.Proofs.YtomdjkcoodaheaaGreatDoor
open Go Go.Vc Sr
variable [Dr]

theorem bnd_map {n : Nat} {l : Fam} (h : Bnd n l) : Bnd n (l.map (nrm rlt)) := ⟨by rw [List.length_map]; exact h.1, fun s hs => by
  obtain ⟨t, ht, rfl⟩ := List.mem_map.1 hs
  have := length_nrm_le (lt := rlt) t; have := h.2 t ht; omega⟩
theorem map_take_succ {α β : Type} {l : List α} (x0 : α) {i : Nat} (h : i < l.length) (f : α → β) : (l.take (i + 1)).map f = (l.take i).map f ++ [f (l.getD i x0)] := by rw [take_snoc x0 h, List.map_append]; rfl
theorem f167 (l : Fam) (hl : Bnd 1000000 l) : ACalls cx 167 [dFam l] fun d => d = dFam (fam l) := by
  have hl1 := hl.1
  refine ACalls.eq (ACalls.of_vc (H := { nil := [(3, 34, 1)], wr := [19], take := [21] }) cxOk Tryz.func167 (by kernel_rfl) rfl (show _ = 22 from rfl) (by kernel_rfl) rfl ?_)
  conv => whnf
  refine VLoop.inv (N := 22) rfl (ι := Nat) (fun i => i ≤ l.length) (fun i => [(3, .orow 3), (6, .im (dFam l)), (7, .im (dI l.length)), (8, .im (dI i))]) (fun i => [(3, .row 34 1 i (fFam ((l.take i).map (nrm rlt))))]) (fun i => l.length - i) 0 (Nat.zero_le _) ⟨⟨ELe.refl _, ELe.refl _, ELe.refl _, ELe.refl _, trivial⟩, ⟨⟨rfl, rfl, rfl, fun i j hi => absurd hi (Nat.not_lt_zero _)⟩, trivial⟩⟩ ?_
  rintro i hi
  conv => whnf
  have hlm : ((l.take i).map (nrm rlt)).length = i := by rw [List.length_map, List.length_take]; omega
  refine ifB.dec (fun h => ?_) (fun h => ?_)
  · conv => whnf
    have hlt : i < l.length := by omega
    refine ⟨⟨by omega, by omega⟩, ?_⟩
    conv => whnf
    refine (f161 (l.getD i []) (hl.at i)).use ⟨DLe.refl _, trivial⟩ ?_
    rintro _ rfl
    conv => whnf
    refine ⟨⟨b34 (by omega), one1 rfl⟩, ?_⟩
    conv => whnf
    refine ⟨⟨by omega, by omega⟩, ?_⟩
    conv => whnf
    refine VNext.by (i + 1) rfl (by omega) (by omega) ⟨⟨ELe.refl _, ELe.refl _, ELe.refl _, ELe.refl _, trivial⟩, ⟨⟨rfl, rfl, rfl, ?_⟩, trivial⟩⟩
    rw [map_take_succ [] hlt]
    exact pt1 hlm.symm (fun _ _ _ _ => DLe.refl _) (DLe.refl _)
  · conv => whnf
    have e : i = l.length := by omega
    subst e
    rw [List.take_length] at *
    refine (s199 (l.map (nrm rlt)) (by rw [List.length_map]) (bnd_map hl) _ (fun _ _ _ _ => DLe.refl _)).use (fun _ _ _ _ => DLe.refl _) ⟨DLe.refl _, trivial⟩ ?_
    rintro f' d ⟨l', hl', hb', hcp, hf'⟩
    conv => whnf
    refine (t201 l' (by rw [hl', List.length_map]) hb' f' hf').use ⟨DLe.refl _, trivial⟩ ?_
    rintro m f'' ⟨hm, hR⟩
    rw [hcp] at hm hR
    conv => whnf
    exact Ret.le (slice_le rfl hm hR)
def prods (a b : Fam) : Fam := a.flatMap fun x => b.map fun y => un x y
theorem prods_len (a b : Fam) : (prods a b).length = a.length * b.length := by
  induction a with
  | nil => simp [prods]
  | cons x xs ih =>
    have : prods (x :: xs) b = b.map (fun y => un x y) ++ prods xs b := by simp [prods]
    rw [this, List.length_append, List.length_map, ih, List.length_cons, Nat.add_mul]; omega
theorem prods_fam (a b : Fam) : fam (prods a b) = prod a b := by
  rw [fam_sets fun s hs => ?_]
  · rfl
  · obtain ⟨x, _, h⟩ := List.mem_flatMap.1 hs
    obtain ⟨y, _, rfl⟩ := List.mem_map.1 h
    exact set_un x y
theorem prods_succ {a b : Fam} {i : Nat} (h : i < a.length) : prods (a.take (i + 1)) b = prods (a.take i) b ++ b.map (fun y => un (a.getD i []) y) := by
  unfold prods
  rw [take_snoc [] h, List.flatMap_append]; simp
theorem prods_bnd {a b : Fam} {n : Nat} (ha : ∀ s ∈ a, s.length ≤ n) (hb : ∀ s ∈ b, s.length ≤ n) : ∀ s ∈ prods a b, s.length ≤ n + n := by
  intro s hs
  obtain ⟨x, hx, h⟩ := List.mem_flatMap.1 hs
  obtain ⟨y, hy, rfl⟩ := List.mem_map.1 h
  have := length_un_le x y; have := ha x hx; have := hb y hy; omega
theorem at_len {a : Fam} {n : Nat} (h : ∀ s ∈ a, s.length ≤ n) (i : Nat) : (a.getD i []).length ≤ n := by
  rw [List.getD_eq_getElem?_getD]
  cases he : a[i]? with
  | none => exact Nat.zero_le _
  | some s => exact h s (List.mem_of_getElem? he)
theorem f168 (a b : Fam) (ha : ∀ s ∈ a, s.length ≤ 400000) (hb : ∀ s ∈ b, s.length ≤ 400000) (hn : a.length * b.length ≤ 1000000) (ha1 : a.length ≤ 1000000) (hb1 : b.length ≤ 1000000) : ACalls cx 168 [dFam a, dFam b] fun d => d = dFam (prod a b) := by
  refine ACalls.eq (ACalls.of_vc (H := { nil := [(5, 34, 1)] }) cxOk Tryz.func168 (by kernel_rfl) rfl (show _ = 32 from rfl) (by kernel_rfl) rfl ?_)
  conv => whnf
  refine VLoop.inv (N := 32) rfl (ι := Nat) (fun i => i ≤ a.length) (fun i => [(1, .im (dFam b)), (5, .orow 5), (10, .im (dFam a)), (11, .im (dI a.length)), (12, .im (dI i))]) (fun i => [(5, .row 34 1 (i * b.length) (fFam (prods (a.take i) b)))]) (fun i => a.length - i) 0 (Nat.zero_le _) ⟨⟨ELe.refl _, ELe.refl _, ELe.refl _, ELe.refl _, ELe.refl _, trivial⟩, ⟨⟨rfl, rfl, (Nat.zero_mul _).symm, fun i j hi => absurd hi (Nat.not_lt_zero _)⟩, trivial⟩⟩ ?_
  rintro i hi
  conv => whnf
  refine ifB.dec (fun h => ?_) (fun h => ?_)
  · conv => whnf
    have hlt : i < a.length := by omega
    have hpl : (prods (a.take i) b).length = i * b.length := by rw [prods_len, List.length_take, Nat.min_eq_left hi]
    have hib : (i + 1) * b.length ≤ 1000000 := Nat.le_trans (Nat.mul_le_mul_right _ hlt) hn
    rw [Nat.add_mul] at hib
    refine ⟨⟨by omega, by omega⟩, ?_⟩
    conv => whnf
    refine VLoop.inv (N := 32) rfl (ι := Nat) (fun j => j ≤ b.length) (fun j => [(1, .im (dFam b)), (5, .orow 5), (7, .im (dIds (a.getD i []))), (10, .im (dFam a)), (11, .im (dI a.length)), (12, .im (dI i)), (16, .im (dFam b)), (17, .im (dI b.length)), (18, .im (dI j))]) (fun j => [(5, .row 34 1 (i * b.length + j) (fFam (prods (a.take i) b ++ (b.take j).map fun y => un (a.getD i []) y)))]) (fun j => b.length - j) 0 (Nat.zero_le _) ⟨⟨ELe.refl _, ELe.refl _, ELe.refl _, ELe.refl _, ELe.refl _, ELe.refl _, ELe.refl _, ELe.refl _, ELe.refl _, trivial⟩, ⟨⟨rfl, rfl, rfl, by rw [List.take_zero, List.map_nil, List.append_nil]; exact fun _ _ _ _ => DLe.refl _⟩, trivial⟩⟩ ?_
    rintro j hj
    conv => whnf
    refine ifB.dec (fun h => ?_) (fun h => ?_)
    · conv => whnf
      have hlt2 : j < b.length := by omega
      refine ⟨⟨by omega, by omega⟩, ?_⟩
      conv => whnf
      refine (f203 (a.getD i []) (b.getD j []) (at_len ha i) (at_len hb j)).use ⟨DLe.refl _, DLe.refl _, trivial⟩ ?_
      rintro _ rfl
      conv => whnf
      refine ⟨⟨b34 (by omega), one1 rfl⟩, ?_⟩
      conv => whnf
      refine ⟨⟨by omega, by omega⟩, ?_⟩
      conv => whnf
      refine VNext.by (j + 1) rfl (by omega) (by omega) ⟨⟨ELe.refl _, ELe.refl _, ELe.refl _, ELe.refl _, ELe.refl _, ELe.refl _, ELe.refl _, ELe.refl _, ELe.refl _, trivial⟩, ⟨⟨rfl, rfl, rfl, ?_⟩, trivial⟩⟩
      rw [map_take_succ [] hlt2, ← List.append_assoc]
      exact pt1 (by rw [List.length_append, hpl, List.length_map, List.length_take]; omega) (fun _ _ _ _ => DLe.refl _) (DLe.refl _)
    · conv => whnf
      have e : j = b.length := by omega
      subst e
      rw [List.take_length] at *
      refine ⟨⟨by omega, by omega⟩, ?_⟩
      conv => whnf
      refine VNext.by (i + 1) rfl (by omega) (by omega) ⟨⟨ELe.refl _, ELe.refl _, ELe.refl _, ELe.refl _, ELe.refl _, trivial⟩, ⟨⟨rfl, rfl, by rw [Nat.add_mul, Nat.one_mul], ?_⟩, trivial⟩⟩
      rw [prods_succ hlt]
      exact fun _ _ _ _ => DLe.refl _
  · conv => whnf
    have e : i = a.length := by omega
    subst e
    rw [List.take_length] at *
    refine (f167 (prods a b) ⟨by rw [prods_len]; exact hn, fun s hs => Nat.le_trans (prods_bnd ha hb s hs) (by omega)⟩).use ⟨slice_le rfl (prods_len a b).symm (fun _ _ _ _ => DLe.refl _), trivial⟩ ?_
    rintro _ rfl
    conv => whnf
    rw [prods_fam]
    exact Ret.le (DLe.refl _)
end Go.Proofs.YtomdjkcoodaheaaGreatDoor

/-
  Package rowset: Minimal; package semiring: families.
-/
set_option maxRecDepth 10000
set_option maxHeartbeats 4000000
set_option linter.unusedVariables false
set_option linter.unusedSimpArgs false
set_option linter.unusedSectionVars false
namespace Go.Proofs.YtomdjkcoodaheaaGreatDoor
open Go Go.Vc Sr
variable [Dr]

def nums (n : Nat) : List Int := (List.range n).map Int.ofNat
theorem nums_len (n : Nat) : (nums n).length = n := by simp [nums]
theorem nums_at {n i : Nat} (h : i < n) : (nums n).getD i 0 = i := by simp [nums, List.getD_eq_getElem?_getD, h]
theorem row0 {n : Nat} {f : Nat → Nat → D} (h : ∀ i, i < n → DLe (f i 0) (dI 0) := by exact fun _ _ => DLe.refl _) : ObLe (.row 3 1 n f) (.row 3 1 n fun p _ => if p < 0 then dI p else dI 0) := ⟨rfl, rfl, rfl, fun i j hi hj => by
  obtain rfl : j = 0 := by omega
  show DLe (f i 0) (if i < 0 then dI i else dI 0)
  rw [if_neg (Nat.not_lt_zero _)]; exact h i hi⟩
theorem f182 (n : Nat) (hn : n ≤ 1000000) : ACalls cx 182 [dI n] fun d => d = dNs (nums n) := by
  refine ACalls.eq (ACalls.of_vc (H := { own := [6] }) cxOk Tryz.func182 (by kernel_rfl) rfl (show _ = 18 from rfl) (by kernel_rfl) rfl ?_)
  conv => whnf
  refine ⟨⟨rfl, by omega, by show (n : Int) * 8 ≤ _; omega, by omega⟩, ?_⟩
  conv => whnf
  refine VLoop.inv (N := 18) rfl (ι := Nat) (fun i => i ≤ n) (fun i => [(3, .orow 6), (8, .im (dI n)), (9, .im (dI i))]) (fun i => [(6, .row 3 1 n fun p _ => if p < i then dI p else dI 0)]) (fun i => n - i) 0 (Nat.zero_le _) ⟨⟨ELe.refl _, ELe.refl _, ELe.refl _, trivial⟩, ⟨row0, trivial⟩⟩ ?_
  rintro i hi
  conv => whnf
  refine ifB.dec (fun h => ?_) (fun h => ?_)
  · conv => whnf
    have hlt : i < n := by omega
    refine ⟨⟨by omega, by omega⟩, by omega, ?_⟩
    conv => whnf
    refine ⟨⟨by omega, by omega⟩, ?_⟩
    conv => whnf
    refine VNext.by (i + 1) rfl (by omega) (by omega) ⟨⟨ELe.refl _, ELe.refl _, ELe.refl _, trivial⟩, ⟨⟨rfl, rfl, rfl, fun p j hp hj => ?_⟩, trivial⟩⟩
    unfold putF
    show DLe (if p = i then if 0 ≤ j ∧ j < 0 + 1 then dI i else if p < i then dI p else dI 0 else if p < i then dI p else dI 0) (if p < i + 1 then dI p else dI 0)
    by_cases e : p = i
    · have hj' : j < 1 := hj
      rw [if_pos e, if_pos (by omega), if_pos (by omega), e]; exact DLe.refl _
    · rw [if_neg e]
      by_cases e2 : p < i
      · rw [if_pos e2, if_pos (by omega)]; exact DLe.refl _
      · rw [if_neg e2, if_neg (by omega)]; exact DLe.refl _
  · conv => whnf
    refine Ret.le (slice_le rfl (nums_len n).symm fun p j hp hj => ?_)
    show DLe (if p < i then dI p else dI 0) (cN ((nums n).getD p 0) j)
    rw [if_pos (by omega), nums_at hp]; exact DLe.refl _
theorem f180 (all : Fam) (hb : Bnd 1000000 all) (i k : Nat) (s : Ids) (hs : s.length ≤ 1000000) (hk : k < all.length) (hi : i < all.length) :
    ACalls cx 180 [dI k, dPI i, .ptr 1 fun _ => dFam all, .ptr 1 fun _ => dIds s] fun d => d = dB (!decide (k = i) && sub (all.getD k []) s) := by
  have hl := hb.1
  refine ACalls.eq (ACalls.of_vc (H := { draw := [(1, 12, [])] }) cxOk Tryz.func180 (by kernel_rfl) rfl (show _ = 17 from rfl) (by kernel_rfl) rfl ?_)
  conv => whnf
  refine ifB.not (ifB.dec (fun h => ?_) (fun h => ?_))
  · conv => whnf
    exact rB (by rw [decide_eq_true (show k = i by omega)]; rfl)
  · conv => whnf
    refine ⟨⟨by omega, by omega⟩, ?_⟩
    conv => whnf
    refine ⟨_, (f142 (all.getD k []) s (hb.at k) hs).use ⟨DLe.refl _, DLe.refl _, trivial⟩ (fun d h => h), ?_⟩
    conv => whnf
    exact rB (by rw [decide_eq_false (show ¬ k = i by omega)]; rfl)
def mins (l : Fam) (n : Nat) : Fam := (l.take n).filter (least l)
theorem ptr1 {f g : Nat → D} (h : DLe (f 0) (g 0)) : DLe (.ptr 1 f) (.ptr 1 g) := DLe.ptr (Nat.le_refl _) fun j hj => by
  obtain rfl : j = 0 := by omega
  exact h
theorem func3 {g : FuncId} {f f' : Nat → D} (h0 : DLe (f 0) (f' 0)) (h1 : DLe (f 1) (f' 1)) (h2 : DLe (f 2) (f' 2)) : DLe (.func g 3 f) (.func g 3 f') := DLe.func fun j hj => by
  rcases j with _ | _ | _ | j
  · exact h0
  · exact h1
  · exact h2
  · omega
def cap180 (i : Nat) (all : Fam) (s : Ids) (j : Nat) : D := bif Nat.beq j 0 then dPI i else bif Nat.beq j 1 then .ptr 1 (fun _ => dFam all) else .ptr 1 (fun _ => dIds s)
theorem any180 {a : Fam} (ha : a.Nodup) {i : Nat} (hi : i < a.length) : (nums a.length).any (fun x => !decide (x.toNat = i) && sub (a.getD x.toNat []) (a.getD i [])) = !least a (a.getD i []) := by
  rw [least_ix ha hi, Bool.eq_iff_iff, List.any_eq_true, Bool.not_eq_true', decide_eq_false_iff_not]
  constructor
  · rintro ⟨x, hx, hp⟩ hall
    obtain ⟨k, hk, rfl⟩ := List.mem_map.1 hx
    rw [List.mem_range] at hk
    rw [Bool.and_eq_true, Bool.not_eq_true', decide_eq_false_iff_not] at hp
    have := hall k hk hp.1
    rw [show (Int.ofNat k).toNat = k from rfl] at hp
    rw [this] at hp; cases hp.2
  · intro h
    refine Classical.byContradiction fun hn => h fun k hk hne => ?_
    rw [Bool.eq_false_iff]
    intro hs
    refine hn ⟨(k : Int), List.mem_map.2 ⟨k, List.mem_range.2 hk, rfl⟩, ?_⟩
    show (!decide (k = i) && sub (a.getD k []) (a.getD i [])) = true
    rw [hs, decide_eq_false hne]; rfl
theorem f145 (l : Fam) (hl : Bnd 1000000 l) : ACalls cx 145 [dFam l] fun d => d = dFam (minF l) := by
  have hlf := hl.fam
  have hl1 := hlf.1
  have hnd : (fam l).Nodup := sorted_nodup slt_sto (fam_isFam l).2
  refine ACalls.eq (ACalls.of_vc (H := { own := [3, 5, 6], nil := [(4, 34, 1)] }) cxOk Tryz.func145 (by kernel_rfl) rfl (show _ = 30 from rfl) (by kernel_rfl) rfl ?_)
  conv => whnf
  refine (f167 l hl).use ⟨DLe.refl _, trivial⟩ ?_
  rintro _ rfl
  conv => whnf
  refine VLoop.invF rfl [3] (ι := Nat) (fun i => i ≤ (fam l).length) (fun i => [(3, .im (.ptr 1 fun _ => dFam (fam l))), (4, .orow 4), (10, .im (dFam (fam l))), (11, .im (dI (fam l).length)), (12, .im (dI i))]) (fun i => [(4, .row 34 1 (mins (fam l) i).length (fFam (mins (fam l) i)))]) (fun i => (fam l).length - i) 0 (Nat.zero_le _) ⟨⟨ptr1 (DLe.refl _), ELe.refl _, ELe.refl _, ELe.refl _, ELe.refl _, trivial⟩, ⟨⟨rfl, rfl, rfl, fun i j hi => absurd hi (Nat.not_lt_zero _)⟩, trivial⟩⟩ ?_
  rintro i hi
  conv => whnf
  have hml : (mins (fam l) i).length ≤ i := by
    have := List.length_filter_le (least (fam l)) ((fam l).take i)
    rw [List.length_take] at this
    unfold mins; omega
  refine ifB.dec (fun h => ?_) (fun h => ?_)
  · conv => whnf
    have hlt : i < (fam l).length := by omega
    have hms : mins (fam l) (i + 1) = if least (fam l) ((fam l).getD i []) = true then mins (fam l) i ++ [(fam l).getD i []] else mins (fam l) i := Sr.filter_take [] hlt _
    refine ⟨⟨by omega, by omega⟩, ?_⟩
    conv => whnf
    refine (f182 (fam l).length hl1).use ⟨DLe.refl _, trivial⟩ ?_
    rintro _ rfl
    conv => whnf
    have hp : ∀ x ∈ nums (fam l).length, ACalls cx 180 ([dI x] ++ capD 3 (cap180 i (fam l) ((fam l).getD i []))) fun d => d = dB (!decide (x.toNat = i) && sub ((fam l).getD x.toNat []) ((fam l).getD i [])) := fun x hx => by
      obtain ⟨k, hk, rfl⟩ := List.mem_map.1 hx
      rw [List.mem_range] at hk
      exact f180 (fam l) hlf i k ((fam l).getD i []) (hlf.at i) hk hlt
    refine (f181 (nums (fam l).length) (by rw [nums_len]; exact hl1) hp).use ⟨DLe.refl _, func3 (ptr1 (DLe.refl _)) (ptr1 (DLe.refl _)) (ptr1 (DLe.refl _)), trivial⟩ ?_
    rintro _ rfl
    conv => whnf
    rw [any180 hnd hlt]
    refine ifB.not (ifB.not (ifB.intro (fun h1 => ?_) (fun h1 => ?_)))
    · conv => whnf
      rw [if_pos h1] at hms
      refine ⟨⟨b34 (by omega), one1 rfl⟩, ?_⟩
      conv => whnf
      refine ⟨⟨by omega, by omega⟩, ?_⟩
      conv => whnf
      refine VNext.by (i + 1) rfl (by omega) (by omega) ⟨⟨ELe.refl _, ELe.refl _, ELe.refl _, ELe.refl _, ELe.refl _, trivial⟩, ⟨?_, trivial⟩⟩
      rw [hms]
      exact ⟨rfl, rfl, snoc_len rfl, pt1 rfl (fun _ _ _ _ => DLe.refl _) (DLe.refl _)⟩
    · conv => whnf
      rw [if_neg (by rw [h1]; simp)] at hms
      refine ⟨⟨by omega, by omega⟩, ?_⟩
      conv => whnf
      exact VNext.by (i + 1) rfl (by omega) (by omega) ⟨⟨ELe.refl _, ELe.refl _, ELe.refl _, ELe.refl _, ELe.refl _, trivial⟩, ⟨by rw [hms]; exact ObLe.refl _, trivial⟩⟩
  · conv => whnf
    have e : i = (fam l).length := by omega
    have hmm : mins (fam l) i = minF l := by rw [mins, e, List.take_length]; rfl
    rw [hmm]
    exact Ret.le (DLe.refl _)
end Go.Proofs.YtomdjkcoodaheaaGreatDoor
