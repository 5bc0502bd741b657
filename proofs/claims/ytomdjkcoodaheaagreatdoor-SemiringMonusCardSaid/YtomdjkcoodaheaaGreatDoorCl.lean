/-
  Package semiring: the functions of the families.
-/
import Derived.Test.YtomdjkcoodaheaaGreatDoorCk
set_option linter.unusedSectionVars false
set_option linter.unusedSimpArgs false
set_option linter.unusedVariables false
set_option maxRecDepth 10000
set_option maxHeartbeats 4000000
set_option linter.unusedVariables false
set_option linter.unusedSimpArgs false
set_option linter.unusedSectionVars false
namespace Go.Proofs.YtomdjkcoodaheaaGreatDoor
open Go Go.Vc Sr
variable [Dr]

def Sz (l : Fam) : Prop := l.length ≤ 1000 ∧ ∀ s ∈ l, s.length ≤ 400000
theorem Sz.bnd {l : Fam} (h : Sz l) : Bnd 1000000 l := ⟨Nat.le_trans h.1 (by decide), fun s hs => Nat.le_trans (h.2 s hs) (by decide)⟩
theorem Sz.app {l k : Fam} (h : Sz l) (h' : Sz k) : Bnd 1000000 (l ++ k) := ⟨by rw [List.length_append]; have := h.1; have := h'.1; omega, fun s hs => by
  rcases List.mem_append.1 hs with q | q
  · have := h.2 s q; omega
  · have := h'.2 s q; omega⟩
theorem app_row {n : Nat} {a b : Fam} {f : Nat → Nat → D} (hn : n = a.length) (hf : ∀ i j, i < n → j < 1 → DLe (f i j) (fFam a i j)) : DLe (.slice 1 (n + b.length) (appD n f (fFam b))) (dFam (a ++ b)) :=
  slice_le rfl (by rw [List.length_append, hn]) fun i j hi hj => by
    by_cases h : i < n
    · rw [appD_lt h, List.getD_eq_getElem?_getD, List.getElem?_append_left (by omega), ← List.getD_eq_getElem?_getD]; exact hf i j h hj
    · rw [appD_ge (by omega), List.getD_eq_getElem?_getD, List.getElem?_append_right (by omega), ← List.getD_eq_getElem?_getD, ← hn]; exact DLe.refl _
theorem box3 {t : Nat} {f g : Nat → E} (h0 : ELe (f 0) (g 0)) (h1 : ELe (f 1) (g 1)) (h2 : ELe (f 2) (g 2)) : ObLe (.box t 3 f) (.box t 3 g) := ⟨rfl, rfl, fun j hj => by
  rcases j with _ | _ | _ | j
  · exact h0
  · exact h1
  · exact h2
  · omega⟩
theorem f130 (a b : El) (ha : Sz a.S) (hb : Sz b.S) : ACalls cx 130 [dEl a, dEl b] fun d => d = dEl ⟨0, 0, fam (a.S ++ b.S)⟩ := by
  have h1 := ha.1
  have h2 := hb.1
  have h3 := ha.app hb
  have h4 := ha.bnd.1
  refine ACalls.eq (ACalls.of_vc (H := { own := [4] }) cxOk Tryz.func130 (by kernel_rfl) rfl (show _ = 13 from rfl) (by kernel_rfl) rfl ?_)
  conv => whnf
  refine VDraw.all (N := 13) cxOk { own := [4], row := [(7, 34, 1)] } [(4, .own 4 0)] [(4, .box 24 3 fun j => .im (cEl ⟨0, 0, fam (a.S ++ b.S)⟩ j))] ?_ ?_
  · conv => whnf
    repeat' first
      | exact trivial
      | (refine And.intro ?_ ?_ <;> conv => whnf)
      | (refine (r134 a.S h4).use ⟨DLe.refl _, trivial⟩ ?_; rintro n f ⟨hn, hf⟩; conv => whnf)
      | exact b34 (by omega)
      | exact one1n fun i hi => rfl
      | (refine (f167 (a.S ++ b.S) h3).use ⟨app_row hn hf, trivial⟩ ?_; rintro _ rfl; conv => whnf)
      | exact ⟨rfl, ⟨⟨ELe.refl _, trivial⟩, ⟨box3 (ELe.refl _) (ELe.refl _) (ELe.refl _), trivial⟩⟩⟩
  · conv => whnf
    exact rSelf (DLe.refl _) (DLe.refl _) (DLe.refl _)
theorem f146 (a b : El) (ha : Sz a.S) (hb : Sz b.S) : ACalls cx 146 [dEl a, dEl b] fun d => d = dEl ⟨0, 0, minF (a.S ++ b.S)⟩ := by
  have h1 := ha.1
  have h2 := hb.1
  have h3 := ha.app hb
  have h4 := ha.bnd.1
  refine ACalls.eq (ACalls.of_vc (H := { own := [4] }) cxOk Tryz.func146 (by kernel_rfl) rfl (show _ = 13 from rfl) (by kernel_rfl) rfl ?_)
  conv => whnf
  refine VDraw.all (N := 13) cxOk { own := [4], row := [(7, 34, 1)] } [(4, .own 4 0)] [(4, .box 24 3 fun j => .im (cEl ⟨0, 0, minF (a.S ++ b.S)⟩ j))] ?_ ?_
  · conv => whnf
    repeat' first
      | exact trivial
      | (refine And.intro ?_ ?_ <;> conv => whnf)
      | (refine (r134 a.S h4).use ⟨DLe.refl _, trivial⟩ ?_; rintro n f ⟨hn, hf⟩; conv => whnf)
      | exact b34 (by omega)
      | exact one1n fun i hi => rfl
      | (refine (f145 (a.S ++ b.S) h3).use ⟨app_row hn hf, trivial⟩ ?_; rintro _ rfl; conv => whnf)
      | exact ⟨rfl, ⟨⟨ELe.refl _, trivial⟩, ⟨box3 (ELe.refl _) (ELe.refl _) (ELe.refl _), trivial⟩⟩⟩
  · conv => whnf
    exact rSelf (DLe.refl _) (DLe.refl _) (DLe.refl _)
theorem sz_mul {l k : Fam} (h : Sz l) (h' : Sz k) : l.length * k.length ≤ 1000000 := Nat.le_trans (Nat.mul_le_mul h.1 h'.1) (by decide)
theorem prod_bnd {l k : Fam} (h : Sz l) (h' : Sz k) : Bnd 1000000 (prod l k) := ⟨Nat.le_trans (length_prod_le l k) (sz_mul h h'), fun s hs => by
  obtain ⟨x, hx, y, hy, rfl⟩ := mem_prod.1 hs
  have := length_un_le x y; have := h.2 x hx; have := h'.2 y hy; omega⟩
theorem f131 (a b : El) (ha : Sz a.S) (hb : Sz b.S) : ACalls cx 131 [dEl a, dEl b] fun d => d = dEl ⟨0, 0, prod a.S b.S⟩ := by
  refine ACalls.eq (ACalls.of_vc (H := { own := [4] }) cxOk Tryz.func131 (by kernel_rfl) rfl (show _ = 11 from rfl) (by kernel_rfl) rfl ?_)
  conv => whnf
  refine (f168 a.S b.S ha.2 hb.2 (sz_mul ha hb) ha.bnd.1 hb.bnd.1).use ⟨DLe.refl _, DLe.refl _, trivial⟩ ?_
  rintro _ rfl
  conv => whnf
  exact rSelf (DLe.refl _) (DLe.refl _) (DLe.refl _)
theorem f147 (a b : El) (ha : Sz a.S) (hb : Sz b.S) : ACalls cx 147 [dEl a, dEl b] fun d => d = dEl ⟨0, 0, minF (prod a.S b.S)⟩ := by
  refine ACalls.eq (ACalls.of_vc (H := { own := [4] }) cxOk Tryz.func147 (by kernel_rfl) rfl (show _ = 11 from rfl) (by kernel_rfl) rfl ?_)
  conv => whnf
  refine (f131 a b ha hb).use ⟨DLe.refl _, DLe.refl _, trivial⟩ ?_
  rintro _ rfl
  conv => whnf
  refine (f145 (prod a.S b.S) (prod_bnd ha hb)).use ⟨DLe.refl _, trivial⟩ ?_
  rintro _ rfl
  conv => whnf
  exact rSelf (DLe.refl _) (DLe.refl _) (DLe.refl _)
theorem f129 : ACalls cx 129 [] fun d => d = dEl ⟨0, 0, [[]]⟩ := by
  refine ACalls.eq (ACalls.of_vc (H := { own := [0] }) cxOk Tryz.func129 (by kernel_rfl) rfl (show _ = 3 from rfl) (by kernel_rfl) rfl ?_)
  conv => whnf
  exact rSelf (DLe.refl _) (DLe.refl _) (DLe.slice (one1 (DLe.nil (k := 2) (f := fIds []))))
theorem f170 (s t : Ids) (hs : s.length ≤ 1000000) (ht : t.length ≤ 1000000) : ACalls cx 170 [dIds t, .ptr 1 fun _ => dIds s] fun d => d = dB (decide (s = t)) := by
  refine ACalls.eq (ACalls.of_vc (H := {}) cxOk Tryz.func170 (by kernel_rfl) rfl (show _ = 7 from rfl) (by kernel_rfl) rfl ?_)
  conv => whnf
  refine (f115 s t hs ht).use ⟨DLe.refl _, DLe.refl _, trivial⟩ ?_
  rintro _ rfl
  conv => whnf
  exact rB rfl
theorem f136 (l : Fam) (s : Ids) (hl : Bnd 1000000 l) (hs : s.length ≤ 1000000) : ACalls cx 136 [dFam l, dIds s] fun d => d = dB (decide (s ∈ l)) := by
  refine ACalls.eq (ACalls.of_vc (H := {}) cxOk Tryz.func136 (by kernel_rfl) rfl (show _ = 8 from rfl) (by kernel_rfl) rfl ?_)
  conv => whnf
  refine (f150 (g := 170) (n := 1) (cf := fun _ => .ptr 1 fun _ => dIds s) (p := fun t => decide (s = t)) l hl.1 (fun t ht => f170 s t hs (hl.2 t ht))).use ⟨DLe.refl _, func1 (ptr1 (DLe.refl _)), trivial⟩ ?_
  rintro _ rfl
  conv => whnf
  refine rB ?_
  rw [Bool.eq_iff_iff, List.any_eq_true, decide_eq_true_eq]; simp
theorem f135 (b : El) (s : Ids) (hb : Bnd 1000000 b.S) (hs : s.length ≤ 1000000) : ACalls cx 135 [dIds s, .ptr 3 (cEl b)] fun d => d = dB (decide (s ∈ b.S)) := by
  refine ACalls.eq (ACalls.of_vc (H := {}) cxOk Tryz.func135 (by kernel_rfl) rfl (show _ = 8 from rfl) (by kernel_rfl) rfl ?_)
  conv => whnf
  refine (f136 b.S s hb hs).use ⟨DLe.refl _, DLe.refl _, trivial⟩ ?_
  rintro _ rfl
  conv => whnf
  exact rB rfl
theorem ptr3 {f g : Nat → D} (h0 : DLe (f 0) (g 0)) (h1 : DLe (f 1) (g 1)) (h2 : DLe (f 2) (g 2)) : DLe (.ptr 3 f) (.ptr 3 g) := DLe.ptr (Nat.le_refl _) fun j hj => by
  rcases j with _ | _ | _ | j
  · exact h0
  · exact h1
  · exact h2
  · omega
theorem rFam {f : Nat → D} {l : Fam} {n : Nat} {g : Nat → Nat → D} (h0 : DLe (f 0) (dI 0)) (h1 : DLe (f 1) (dI 0)) (h2 : DLe (f 2) (.slice 1 n g)) (hR : RFam l n g) : Ret (fun x => DLe x (dEl ⟨0, 0, l⟩)) (.agg 3 f) :=
  rSelf h0 h1 (h2.trans (RFam.slice ⟨n, g, hR, rfl⟩))
theorem f132 (a b : El) (ha : Sz a.S) (hb : Sz b.S) : ACalls cx 132 [dEl a, dEl b] fun d => d = dEl ⟨0, 0, a.S.filter fun s => !decide (s ∈ b.S)⟩ := by
  refine ACalls.eq (ACalls.of_vc (H := { own := [4], row := [(7, 34, 1)], take := [9] }) cxOk Tryz.func132 (by kernel_rfl) rfl (show _ = 11 from rfl) (by kernel_rfl) rfl ?_)
  conv => whnf
  refine (r134 a.S ha.bnd.1).use ⟨DLe.refl _, trivial⟩ ?_
  rintro n f ⟨hn, hf⟩
  conv => whnf
  refine (t133 (g := 135) (q := 1) (cf := fun _ => .ptr 3 (cEl b)) (p := fun s => decide (s ∈ b.S)) a.S hn ha.bnd.1 (fun s hs => f135 b s hb.bnd (ha.bnd.2 s hs)) f hf).use ⟨func1 (ptr3 (DLe.refl _) (DLe.refl _) (DLe.refl _)), trivial⟩ ?_
  rintro m f'' hR
  conv => whnf

  exact rSelf (DLe.refl _) (DLe.refl _) (RFam.slice ⟨_, _, hR, rfl⟩)
theorem f151 (s t : Ids) (hs : s.length ≤ 1000000) (ht : t.length ≤ 1000000) : ACalls cx 151 [dIds t, .ptr 1 fun _ => dIds s] fun d => d = dB (sub t s) := by
  refine ACalls.eq (ACalls.of_vc (H := {}) cxOk Tryz.func151 (by kernel_rfl) rfl (show _ = 7 from rfl) (by kernel_rfl) rfl ?_)
  conv => whnf
  refine (f142 t s ht hs).use ⟨DLe.refl _, DLe.refl _, trivial⟩ ?_
  rintro _ rfl
  conv => whnf
  exact rB rfl
theorem f149 (b : El) (s : Ids) (hb : Bnd 1000000 b.S) (hs : s.length ≤ 1000000) : ACalls cx 149 [dIds s, .ptr 3 (cEl b)] fun d => d = dB (b.S.any fun t => sub t s) := by
  refine ACalls.eq (ACalls.of_vc (H := {}) cxOk Tryz.func149 (by kernel_rfl) rfl (show _ = 8 from rfl) (by kernel_rfl) rfl ?_)
  conv => whnf
  refine (f150 (g := 151) (n := 1) (cf := fun _ => .ptr 1 fun _ => dIds s) (p := fun t => sub t s) b.S hb.1 (fun t ht => f151 s t hs (hb.2 t ht))).use ⟨DLe.refl _, func1 (ptr1 (DLe.refl _)), trivial⟩ ?_
  rintro _ rfl
  conv => whnf
  exact rB rfl
theorem f148 (a b : El) (ha : Sz a.S) (hb : Sz b.S) : ACalls cx 148 [dEl a, dEl b] fun d => d = dEl ⟨0, 0, a.S.filter fun s => !(b.S.any fun t => sub t s)⟩ := by
  refine ACalls.eq (ACalls.of_vc (H := { own := [4], row := [(7, 34, 1)], take := [9] }) cxOk Tryz.func148 (by kernel_rfl) rfl (show _ = 11 from rfl) (by kernel_rfl) rfl ?_)
  conv => whnf
  refine (r134 a.S ha.bnd.1).use ⟨DLe.refl _, trivial⟩ ?_
  rintro n f ⟨hn, hf⟩
  conv => whnf
  refine (t133 (g := 149) (q := 1) (cf := fun _ => .ptr 3 (cEl b)) (p := fun s => b.S.any fun t => sub t s) a.S hn ha.bnd.1 (fun s hs => f149 b s hb.bnd (ha.bnd.2 s hs)) f hf).use ⟨func1 (ptr3 (DLe.refl _) (DLe.refl _) (DLe.refl _)), trivial⟩ ?_
  rintro m f'' hR
  conv => whnf
  exact rSelf (DLe.refl _) (DLe.refl _) (RFam.slice ⟨_, _, hR, rfl⟩)
end Go.Proofs.YtomdjkcoodaheaaGreatDoor
