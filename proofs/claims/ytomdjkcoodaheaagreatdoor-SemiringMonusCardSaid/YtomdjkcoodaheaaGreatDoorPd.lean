/-
  Plain: the laws of monus; absorption.
-/
import Derived.Test.YtomdjkcoodaheaaGreatDoorPc
set_option linter.unusedSectionVars false
set_option linter.unusedSimpArgs false
set_option linter.unusedVariables false
set_option linter.unusedVariables false
namespace Sr
theorem rok_filter {l : Fam} (h : Rok l) (p : Ids → Bool) : Rok (l.filter p) := rok_mem h fun s hs => (List.mem_filter.1 hs).1
theorem fam_filter {l : Fam} (h : IsFam l) (p : Ids → Bool) : IsFam (l.filter p) := ⟨fun s hs => h.1 s (List.mem_filter.1 hs).1, h.2.filter p⟩
/-- x without y. -/
def mn (x y : Ids) : Ids := nrm rlt (x.filter fun e => !decide (e ∈ y))
theorem mem_mn {x y : Ids} {e : RId} : e ∈ mn x y ↔ e ∈ x ∧ e ∉ y := by rw [mn, mem_nrm, List.mem_filter]; simp
theorem set_mn (x y : Ids) : IsSet (mn x y) := sorted_nrm rlt_sto _
theorem monE0 (n m : Int) : monE 0 ⟨n, 0, []⟩ ⟨m, 0, []⟩ = ⟨imax (n - m) 0, 0, []⟩ := by simp [monE]
theorem monE1 (n m : Int) : monE 1 ⟨n, 0, []⟩ ⟨m, 0, []⟩ = ⟨imax (n - m) 0, 0, []⟩ := by simp [monE]
theorem monE2 (n m : Int) : monE 2 ⟨n, 0, []⟩ ⟨m, 0, []⟩ = if n < m then ⟨n, 0, []⟩ else zeroE 2 := by simp [monE]
theorem monE3 (n m : Int) : monE 3 ⟨n, 0, []⟩ ⟨m, 0, []⟩ = if n < m then ⟨n, 0, []⟩ else zeroE 3 := by simp [monE]
theorem monE2' (n m : Int) : monE 2 ⟨n, 0, []⟩ ⟨m, 0, []⟩ = ⟨if n < m then n else lim 2, 0, []⟩ := by rw [monE2]; split <;> rfl
theorem monE3' (n m : Int) : monE 3 ⟨n, 0, []⟩ ⟨m, 0, []⟩ = ⟨if n < m then n else lim 3, 0, []⟩ := by rw [monE3]; split <;> rfl
theorem monE4 (n m n' m' : Int) : monE 4 ⟨n, m, []⟩ ⟨n', m', []⟩ = ⟨gt0 n n', imax (gt0 n n') (gt0 m m'), []⟩ := by simp [monE]
theorem monE5 (a b : Fam) : monE 5 ⟨0, 0, a⟩ ⟨0, 0, b⟩ = ⟨0, 0, a.filter (keep 5 b)⟩ := by simp [monE]
theorem monE7 (a b : Fam) : monE 7 ⟨0, 0, a⟩ ⟨0, 0, b⟩ = ⟨0, 0, a.filter (keep 7 b)⟩ := by simp [monE]
theorem monE6r (a : El) (N M : Int) : monE 6 a ⟨N, M, []⟩ = a := by simp [monE]
theorem monE6l (b : El) (hb : b.S.length ≠ 0) : monE 6 ⟨0, 0, []⟩ b = ⟨0, 0, []⟩ := by
  have : b.S ≠ [] := fun e => hb (by rw [e]; rfl)
  simp [monE, this]
theorem monE6 (x y : Ids) : monE 6 ⟨0, 0, [x]⟩ ⟨0, 0, [y]⟩ = if sub x y = true then ⟨0, 0, []⟩ else ⟨0, 0, [mn x y]⟩ := by simp [monE, hd, mn]
theorem keep5 {l : Fam} {s : Ids} : keep 5 l s = true ↔ s ∉ l := by
  simp [keep, hit]
  exact ⟨fun h q => h s q rfl, fun h t ht e => h (e ▸ ht)⟩
theorem keep7 {l : Fam} {s : Ids} : keep 7 l s = true ↔ ¬ up l s := by
  simp only [keep, hit, up, List.all_eq_true, Bool.not_eq_true', Bool.or_eq_false_iff, decide_eq_false_iff_not]
  constructor
  · rintro h ⟨t, ht, hs⟩
    have := (h t ht).1
    simp [hs] at this
  · intro h t ht
    have h1 : ¬ sub t s = true := fun q => h ⟨t, ht, q⟩
    refine ⟨by simp [h1], fun e => ?_⟩
    subst e; exact h1 (sub_refl _)
section
variable {k : Int} {a b c : El}
theorem mon_vld (ha : vld k a = true) (hb : vld k b = true) : vld k (monE k a b) = true := by
  have hk := kinds ha
  rcases hk with rfl | rfl | rfl | rfl | rfl | rfl | rfl | rfl
  · obtain ⟨n, rfl, h1, h2⟩ := numE ha (by omega); obtain ⟨m, rfl, h3, h4⟩ := numE hb (by omega)
    rw [monE0]; refine numV (by omega) (by omega) ?_ ?_ <;> (unfold imax; split <;> omega)
  · obtain ⟨n, rfl, h1, h2⟩ := numE ha (by omega); obtain ⟨m, rfl, h3, h4⟩ := numE hb (by omega)
    rw [monE1]; refine numV (by omega) (by omega) ?_ ?_ <;> (unfold imax; split <;> omega)
  · obtain ⟨n, rfl, h1, h2⟩ := numE ha (by omega); obtain ⟨m, rfl, h3, h4⟩ := numE hb (by omega)
    rw [monE2]; split
    · exact ha
    · exact zero_vld rfl
  · obtain ⟨n, rfl, h1, h2⟩ := numE ha (by omega); obtain ⟨m, rfl, h3, h4⟩ := numE hb (by omega)
    rw [monE3]; split
    · exact ha
    · exact zero_vld rfl
  · obtain ⟨n, n', rfl, h1, h2, h3⟩ := trustE ha; obtain ⟨m, m', rfl, h4, h5, h6⟩ := trustE hb
    rw [monE4]; refine trustV ?_ ?_ ?_ <;> (simp only [imax, gt0]; (repeat' split) <;> omega)
  · obtain ⟨l, rfl, h1, h2, h3, _⟩ := setE ha (by omega); obtain ⟨l', rfl, h1', h2', h3', _⟩ := setE hb (by omega)
    rw [monE5]
    exact setV (by omega) (by omega) (Nat.le_trans (List.length_filter_le _ _) h1) (fam_filter h2 _) (rok_filter h3 _) (by omega) (by omega)
  · obtain ⟨l, rfl, h1, h2, h3, h4, _⟩ := setE ha (by omega); obtain ⟨l', rfl, h1', h2', h3', h4', _⟩ := setE hb (by omega)
    rcases len1 (h4' rfl) with rfl | ⟨y, rfl⟩
    · rw [monE6r]; exact ha
    · rcases len1 (h4 rfl) with rfl | ⟨x, rfl⟩
      · rw [monE6l _ (by simp)]; exact zero_vld rfl
      · rw [monE6]; split
        · exact zero_vld rfl
        · refine setV (by omega) (by omega) (by simp) ⟨fun s hs => ?_, List.pairwise_singleton _ _⟩ (fun s hs e he => ?_) (fun _ => by simp) (by omega)
          · rw [List.mem_singleton.1 hs]; exact set_mn x y
          · rw [List.mem_singleton.1 hs] at he; exact h3 x (by simp) e (mem_mn.1 he).1
  · obtain ⟨l, rfl, h1, h2, h3, _, h5⟩ := setE ha (by omega); obtain ⟨l', rfl, h1', h2', h3', _⟩ := setE hb (by omega)
    rw [monE7]
    exact setV (by omega) (by omega) (Nat.le_trans (List.length_filter_le _ _) h1) (fam_filter h2 _) (rok_filter h3 _) (by omega) fun _ => minF_filter h2 (h5 rfl) _
theorem mon_self (ha : vld k a = true) : monE k a a = zeroE k := by
  have hk := kinds ha
  rcases hk with rfl | rfl | rfl | rfl | rfl | rfl | rfl | rfl
  · obtain ⟨n, rfl, h1, h2⟩ := numE ha (by omega)
    show _ = (⟨0, 0, []⟩ : El); rw [monE0, Int.sub_self]; rfl
  · obtain ⟨n, rfl, h1, h2⟩ := numE ha (by omega)
    show _ = (⟨0, 0, []⟩ : El); rw [monE1, Int.sub_self]; rfl
  · obtain ⟨n, rfl, h1, h2⟩ := numE ha (by omega)
    rw [monE2, if_neg (by omega)]
  · obtain ⟨n, rfl, h1, h2⟩ := numE ha (by omega)
    rw [monE3, if_neg (by omega)]
  · obtain ⟨n, n', rfl, h1, h2, h3⟩ := trustE ha
    show _ = (⟨0, 0, []⟩ : El); rw [monE4]
    have e : ∀ z : Int, gt0 z z = 0 := fun z => if_neg (by omega)
    rw [e, e]; rfl
  · obtain ⟨l, rfl, h1, h2, h3, _⟩ := setE ha (by omega)
    show _ = (⟨0, 0, []⟩ : El); rw [monE5]; congr 1
    exact List.filter_eq_nil_iff.2 fun s hs q => keep5.1 q hs
  · obtain ⟨l, rfl, h1, h2, h3, h4, _⟩ := setE ha (by omega)
    rcases len1 (h4 rfl) with rfl | ⟨x, rfl⟩
    · rw [monE6r]; rfl
    · rw [monE6, if_pos (sub_refl x)]; rfl
  · obtain ⟨l, rfl, h1, h2, h3, _⟩ := setE ha (by omega)
    show _ = (⟨0, 0, []⟩ : El); rw [monE7]; congr 1
    exact List.filter_eq_nil_iff.2 fun s hs q => keep7.1 q (up_self hs)
theorem zero_mon (ha : vld k a = true) : monE k (zeroE k) a = zeroE k := by
  have hk := kinds ha
  rcases hk with rfl | rfl | rfl | rfl | rfl | rfl | rfl | rfl
  · obtain ⟨n, rfl, h1, h2⟩ := numE ha (by omega)
    show monE 0 ⟨0, 0, []⟩ _ = (⟨0, 0, []⟩ : El); rw [monE0]; congr 1; unfold imax; split <;> omega
  · obtain ⟨n, rfl, h1, h2⟩ := numE ha (by omega)
    show monE 1 ⟨0, 0, []⟩ _ = (⟨0, 0, []⟩ : El); rw [monE1]; congr 1; unfold imax; split <;> omega
  · obtain ⟨n, rfl, h1, h2⟩ := numE ha (by omega)
    show monE 2 ⟨lim 2, 0, []⟩ _ = zeroE 2; rw [monE2, if_neg (by omega)]
  · obtain ⟨n, rfl, h1, h2⟩ := numE ha (by omega)
    show monE 3 ⟨lim 3, 0, []⟩ _ = zeroE 3; rw [monE3, if_neg (by omega)]
  · obtain ⟨n, n', rfl, h1, h2, h3⟩ := trustE ha
    show monE 4 ⟨0, 0, []⟩ _ = (⟨0, 0, []⟩ : El); rw [monE4, show gt0 0 n = 0 from if_neg (by omega), show gt0 0 n' = 0 from if_neg (by omega)]; rfl
  · obtain ⟨l, rfl, h1, h2, h3, _⟩ := setE ha (by omega)
    show monE 5 ⟨0, 0, []⟩ _ = (⟨0, 0, []⟩ : El); rw [monE5]; rfl
  · obtain ⟨l, rfl, h1, h2, h3, h4, _⟩ := setE ha (by omega)
    show monE 6 ⟨0, 0, []⟩ _ = (⟨0, 0, []⟩ : El)
    rcases len1 (h4 rfl) with rfl | ⟨x, rfl⟩
    · rw [monE6r]
    · rw [monE6l _ (by simp)]
  · obtain ⟨l, rfl, h1, h2, h3, _⟩ := setE ha (by omega)
    show monE 7 ⟨0, 0, []⟩ _ = (⟨0, 0, []⟩ : El); rw [monE7]; rfl
theorem mon_zero (ha : vld k a = true) : monE k a (zeroE k) = a := by
  have hk := kinds ha
  rcases hk with rfl | rfl | rfl | rfl | rfl | rfl | rfl | rfl
  · obtain ⟨n, rfl, h1, h2⟩ := numE ha (by omega)
    show monE 0 _ ⟨0, 0, []⟩ = _; rw [monE0]; congr 1; unfold imax; split <;> omega
  · obtain ⟨n, rfl, h1, h2⟩ := numE ha (by omega)
    show monE 1 _ ⟨0, 0, []⟩ = _; rw [monE1]; congr 1; unfold imax; split <;> omega
  · obtain ⟨n, rfl, h1, h2⟩ := numE ha (by omega)
    show monE 2 _ ⟨lim 2, 0, []⟩ = _; rw [monE2]; split
    · rfl
    · show (⟨lim 2, 0, []⟩ : El) = _; congr 1; omega
  · obtain ⟨n, rfl, h1, h2⟩ := numE ha (by omega)
    show monE 3 _ ⟨lim 3, 0, []⟩ = _; rw [monE3]; split
    · rfl
    · show (⟨lim 3, 0, []⟩ : El) = _; congr 1; omega
  · obtain ⟨n, n', rfl, h1, h2, h3⟩ := trustE ha
    show monE 4 _ ⟨0, 0, []⟩ = _; rw [monE4]; congr 1 <;> (simp only [imax, gt0]; (repeat' split) <;> omega)
  · obtain ⟨l, rfl, h1, h2, h3, _⟩ := setE ha (by omega)
    show monE 5 _ ⟨0, 0, []⟩ = _; rw [monE5]; congr 1
    exact List.filter_eq_self.2 fun s hs => keep5.2 (by simp)
  · show monE 6 _ ⟨0, 0, []⟩ = _; rw [monE6r]
  · obtain ⟨l, rfl, h1, h2, h3, _⟩ := setE ha (by omega)
    show monE 7 _ ⟨0, 0, []⟩ = _; rw [monE7]; congr 1
    exact List.filter_eq_self.2 fun s hs => keep7.2 not_up_nil
theorem add_mon (ha : vld k a = true) (hb : vld k b = true) : addE k a (monE k b a) = addE k b (monE k a b) := by
  have hk := kinds ha
  rcases hk with rfl | rfl | rfl | rfl | rfl | rfl | rfl | rfl
  · obtain ⟨n, rfl, h1, h2⟩ := numE ha (by omega); obtain ⟨m, rfl, h3, h4⟩ := numE hb (by omega)
    have e : lim 0 = 1 := rfl
    rw [monE0, monE0, addE0, addE0]; congr 1; unfold imax; (repeat' split) <;> omega
  · obtain ⟨n, rfl, h1, h2⟩ := numE ha (by omega); obtain ⟨m, rfl, h3, h4⟩ := numE hb (by omega)
    rw [monE1, monE1, addE1, addE1]; congr 1; unfold imax imin; (repeat' split) <;> omega
  · obtain ⟨n, rfl, h1, h2⟩ := numE ha (by omega); obtain ⟨m, rfl, h3, h4⟩ := numE hb (by omega)
    rw [monE2, monE2]; show addE 2 _ (if _ then _ else ⟨lim 2, 0, []⟩) = addE 2 _ (if _ then _ else ⟨lim 2, 0, []⟩)
    split <;> split <;> (rw [addE2, addE2]; congr 1; unfold imin; (repeat' split) <;> omega)
  · obtain ⟨n, rfl, h1, h2⟩ := numE ha (by omega); obtain ⟨m, rfl, h3, h4⟩ := numE hb (by omega)
    rw [monE3, monE3]; show addE 3 _ (if _ then _ else ⟨lim 3, 0, []⟩) = addE 3 _ (if _ then _ else ⟨lim 3, 0, []⟩)
    split <;> split <;> (rw [addE3, addE3]; congr 1; unfold imin; (repeat' split) <;> omega)
  · obtain ⟨n, n', rfl, h1, h2, h3⟩ := trustE ha; obtain ⟨m, m', rfl, h4, h5, h6⟩ := trustE hb
    rw [monE4, monE4, addE4, addE4]; congr 1 <;> (simp only [imax, gt0]; (repeat' split) <;> omega)
  · obtain ⟨l, rfl, h1, h2, h3, _⟩ := setE ha (by omega); obtain ⟨l', rfl, h1', h2', h3', _⟩ := setE hb (by omega)
    rw [monE5, monE5, addE5, addE5]; congr 1
    refine nrm_congr slt_sto fun s => ?_
    simp only [List.mem_append, List.mem_filter, keep5]
    rcases Classical.em (s ∈ l) with p | p <;> rcases Classical.em (s ∈ l') with q | q <;> simp [p, q]
  · obtain ⟨l, rfl, h1, h2, h3, h4, _⟩ := setE ha (by omega); obtain ⟨l', rfl, h1', h2', h3', h4', _⟩ := setE hb (by omega)
    rcases len1 (h4 rfl) with rfl | ⟨x, rfl⟩
    · rw [monE6r, addE6l]
      rcases len1 (h4' rfl) with rfl | ⟨y, rfl⟩
      · rw [monE6r, addE6l]
      · rw [monE6l _ (by simp), addE6r (by simp) _ rfl ⟨rfl, rfl⟩]
    · rcases len1 (h4' rfl) with rfl | ⟨y, rfl⟩
      · rw [monE6r, addE6l, monE6l _ (by simp), addE6r (by simp) _ rfl ⟨rfl, rfl⟩]
      · have sx := h2.1 x (by simp); have sy := h2'.1 y (by simp)
        have key : ∀ {u v : Ids}, IsSet u → addE 6 ⟨0, 0, [u]⟩ (monE 6 ⟨0, 0, [v]⟩ ⟨0, 0, [u]⟩) = ⟨0, 0, [un u v]⟩ := fun {u v} su => by
          rw [monE6]; split
          · rename_i h
            rw [addE6r (by simp) _ rfl ⟨rfl, rfl⟩, un_comm, un_of_sub su h]
          · rw [addE6]; congr 2
            exact set_ext (set_un _ _) (set_un _ _) fun e => by
              simp only [mem_un, mem_mn]
              rcases Classical.em (e ∈ u) with p | p <;> simp [p]
        rw [key sx, key sy, un_comm]
  · obtain ⟨l, rfl, h1, h2, h3, _⟩ := setE ha (by omega); obtain ⟨l', rfl, h1', h2', h3', _⟩ := setE hb (by omega)
    rw [monE7, monE7, addE7, addE7]; congr 1
    have key : ∀ {u v : Fam} {s : Ids}, up (u ++ v.filter (keep 7 u)) s ↔ up u s ∨ up v s := fun {u v s} => by
      rw [up_app]
      constructor
      · rintro (h | ⟨t, ht, h⟩)
        · exact .inl h
        · exact .inr ⟨t, (List.mem_filter.1 ht).1, h⟩
      · rintro (h | ⟨t, ht, h⟩)
        · exact .inl h
        · rcases Classical.em (up u t) with q | q
          · exact .inl (up_mono q h)
          · exact .inr ⟨t, List.mem_filter.2 ⟨ht, keep7.2 q⟩, h⟩
    have f1 := (fam_filter h2' (keep 7 l)).sets
    have f2 := (fam_filter h2 (keep 7 l')).sets
    refine minF_eq (nrm_isFam (h2.sets.app f1)).1 (nrm_isFam (h2'.sets.app f2)).1 fun s => ?_
    rw [up_nrm, up_nrm, key, key, or_comm]
theorem mon_add (ha : vld k a = true) (hb : vld k b = true) (hc : vld k c = true) : monE k a (addE k b c) = monE k (monE k a b) c := by
  have hk := kinds ha
  rcases hk with rfl | rfl | rfl | rfl | rfl | rfl | rfl | rfl
  · obtain ⟨n, rfl, h1, h2⟩ := numE ha (by omega); obtain ⟨m, rfl, h3, h4⟩ := numE hb (by omega); obtain ⟨p, rfl, h5, h6⟩ := numE hc (by omega)
    have e : lim 0 = 1 := rfl
    rw [addE0, monE0, monE0, monE0]; congr 1; unfold imax; (repeat' split) <;> omega
  · obtain ⟨n, rfl, h1, h2⟩ := numE ha (by omega); obtain ⟨m, rfl, h3, h4⟩ := numE hb (by omega); obtain ⟨p, rfl, h5, h6⟩ := numE hc (by omega)
    have e : lim 1 = 1152921504606846976 := rfl
    rw [addE1, monE1, monE1, monE1]; congr 1; unfold imax imin; (repeat' split) <;> omega
  · obtain ⟨n, rfl, h1, h2⟩ := numE ha (by omega); obtain ⟨m, rfl, h3, h4⟩ := numE hb (by omega); obtain ⟨p, rfl, h5, h6⟩ := numE hc (by omega)
    rw [addE2, monE2', monE2', monE2']; congr 1; unfold imin; (repeat' split) <;> omega
  · obtain ⟨n, rfl, h1, h2⟩ := numE ha (by omega); obtain ⟨m, rfl, h3, h4⟩ := numE hb (by omega); obtain ⟨p, rfl, h5, h6⟩ := numE hc (by omega)
    rw [addE3, monE3', monE3', monE3']; congr 1; unfold imin; (repeat' split) <;> omega
  · obtain ⟨n, n', rfl, h1, h2, h3⟩ := trustE ha; obtain ⟨m, m', rfl, h4, h5, h6⟩ := trustE hb; obtain ⟨p, p', rfl, h7, h8, h9⟩ := trustE hc
    have g0 : ∀ x y : Int, 0 ≤ x → 0 ≤ gt0 x y := fun x y h => by unfold gt0; split <;> omega
    have key : ∀ x y z : Int, 0 ≤ x → 0 ≤ z → gt0 x (imax y z) = gt0 (gt0 x y) z := fun x y z h1 h2 => by simp only [imax, gt0]; (repeat' split) <;> omega
    have key2 : ∀ u v : Int, 0 ≤ u → 0 ≤ v → imax (gt0 u p) (gt0 v p') = imax (gt0 u p) (gt0 (imax u v) p') := fun u v hu hv => by
      rcases Int.lt_or_le u v with q | q
      · rw [show imax u v = v from if_pos q]
      · rcases Int.lt_or_eq_of_le q with q | q
        · rw [show imax u v = u from if_neg (by omega)]; simp only [imax, gt0]; (repeat' split) <;> omega
        · rw [q, show imax u u = u from if_neg (by omega)]
    rw [addE4, monE4, monE4, monE4, key _ _ _ h1 h7, key _ _ _ (by omega) (by omega), key2 _ _ (g0 _ _ h1) (g0 _ _ (by omega))]
  · obtain ⟨l, rfl, h1, h2, h3, _⟩ := setE ha (by omega); obtain ⟨l', rfl, h1', h2', h3', _⟩ := setE hb (by omega); obtain ⟨q, rfl, g1, g2, g3, _⟩ := setE hc (by omega)
    rw [addE5, monE5, monE5, monE5, List.filter_filter]; congr 1
    refine List.filter_congr fun s hs => Bool.eq_iff_iff.2 ?_
    rw [Bool.and_eq_true, keep5, keep5, keep5, mem_nrm, List.mem_append, not_or, and_comm]
  · obtain ⟨l, rfl, h1, h2, h3, h4, _⟩ := setE ha (by omega); obtain ⟨l', rfl, h1', h2', h3', h4', _⟩ := setE hb (by omega); obtain ⟨q, rfl, g1, g2, g3, g4, _⟩ := setE hc (by omega)
    have nilL : ∀ {e : El}, (∃ q : Fam, e = ⟨0, 0, q⟩ ∧ q.length ≤ 1) → monE 6 ⟨0, 0, []⟩ e = ⟨0, 0, []⟩ := by
      rintro e ⟨q, rfl, hq⟩
      rcases len1 hq with rfl | ⟨y, rfl⟩
      · rw [monE6r]
      · rw [monE6l _ (by simp)]
    rcases len1 (h4' rfl) with rfl | ⟨y, rfl⟩
    · rw [addE6l, monE6r]
    · rcases len1 (g4 rfl) with rfl | ⟨z, rfl⟩
      · rw [addE6r (by simp) _ rfl ⟨rfl, rfl⟩, monE6r]
      · rw [addE6]
        rcases len1 (h4 rfl) with rfl | ⟨x, rfl⟩
        · rw [nilL ⟨_, rfl, by simp⟩, nilL ⟨_, rfl, by simp⟩, nilL ⟨_, rfl, by simp⟩]
        · rw [monE6, monE6]
          rcases Classical.em (sub x y = true) with hxy | hxy
          · rw [if_pos hxy, nilL ⟨_, rfl, by simp⟩, if_pos (sub_iff.2 fun e he => mem_un.2 (.inl (sub_iff.1 hxy e he)))]
          · rw [if_neg hxy, monE6]
            have hs : sub x (un y z) = true ↔ sub (mn x y) z = true := by
              simp only [sub_iff, mem_un, mem_mn]
              constructor
              · rintro h e ⟨h1, h2⟩; exact (h e h1).resolve_left h2
              · intro h e he
                rcases Classical.em (e ∈ y) with q | q
                · exact .inl q
                · exact .inr (h e ⟨he, q⟩)
            rcases Classical.em (sub x (un y z) = true) with hh | hh
            · rw [if_pos hh, if_pos (hs.1 hh)]
            · rw [if_neg hh, if_neg fun w => hh (hs.2 w)]; congr 2
              exact set_ext (set_mn _ _) (set_mn _ _) fun e => by simp only [mem_mn, mem_un, not_or, and_assoc]
  · obtain ⟨l, rfl, h1, h2, h3, _⟩ := setE ha (by omega); obtain ⟨l', rfl, h1', h2', h3', _⟩ := setE hb (by omega); obtain ⟨q, rfl, g1, g2, g3, _⟩ := setE hc (by omega)
    rw [addE7, monE7, monE7, monE7, List.filter_filter]; congr 1
    have s2 := (nrm_isFam (h2'.sets.app g2.sets)).1
    refine List.filter_congr fun s hs => Bool.eq_iff_iff.2 ?_
    rw [Bool.and_eq_true, keep7, keep7, keep7, up_minF s2, up_nrm, up_app, not_or, and_comm]
end
end Sr
