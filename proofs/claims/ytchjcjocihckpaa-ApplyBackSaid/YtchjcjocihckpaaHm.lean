/- Contract: all texts, by the document's answer. -/
import Derived.Test.YtchjcjocihckpaaHl
namespace Go.Proofs.Ytchjcjocihckpaa.G
open Go Go.RowKit
theorem strs_one (L : List BA) : (L.flatMap strE).all (·.oneCell') = true := by
  rw [List.all_eq_true]
  intro x hx
  obtain ⟨t, _, ht⟩ := List.mem_flatMap.1 hx
  simp only [strE, List.mem_singleton] at ht
  subst ht; rfl
theorem strs_len (L : List BA) : (L.flatMap strE).length = L.length * 1 := flat_len strE_len L
theorem strs_at (L : List BA) (j : Nat) : (L.flatMap strE)[j]? = (L[j]?).map fun t => Value.string t := by
  by_cases h : j < L.length
  · have := flat_at strE_len L j h 0 (by decide)
    rw [Nat.mul_one, Nat.add_zero] at this
    rw [this, List.getElem?_eq_getElem h]; rfl
  · have h1 : L[j]? = none := List.getElem?_eq_none (by omega)
    have h2 : (L.flatMap strE)[j]? = none := List.getElem?_eq_none (by rw [strs_len]; omega)
    rw [h1, h2]; rfl
section
variable {w w1 : World} {s s1 : Sl} {L ys : List BA}
theorem OwnL.cells (h : OwnL w t_string 1 strE s L) (hb : s.b ≠ none) : ∃ g, s.b = some ⟨g, 0, none⟩ ∧ g < w.heap.size ∧ s.n = L.length ∧ s.n ≤ s.c ∧ ∀ j t, L[j]? = some t → w.cell? ⟨g, j, none⟩ = some (.string t) := by
  obtain ⟨g, cur, h1, h2, h3, h4, h5, h6⟩ := h.blk hb
  have hn := h.len strE_len (by decide)
  refine ⟨g, h1, lt_of_blk h2, hn, h3, fun j t hj => cell_blk h2 ?_⟩
  have hlt := gl hj
  have := strs_at L j
  rw [← h6, List.getElem?_take_of_lt (by omega), Array.getElem?_toList, hj] at this
  exact this
theorem OwnL.front (h : OwnL w t_string 1 strE s L) (hb : s.b ≠ none) {k : Nat} (hk : k ≤ s.n) : ∃ g, (s.sub 0 k 1).b = some ⟨g, 0, none⟩ ∧ s.blk = some g ∧ Cells w g 0 ((L.take k).flatMap strE) := by
  obtain ⟨g, h1, h2, h3, h4, h5⟩ := h.cells hb
  refine ⟨g, ?_, by simp [Sl.blk, h1], Cells.of _ _ fun j v hj => ?_⟩
  · unfold Sl.sub; dsimp only; rw [h1]; split
    · rfl
    · simp [Addr.add]
  · rw [strs_at, Option.map_eq_some_iff] at hj
    obtain ⟨t, ht, rfl⟩ := hj
    have hjk : j < k := by have := gl ht; simp at this; omega
    rw [List.getElem?_take_of_lt hjk] at ht
    rw [Nat.zero_add]; exact h5 j t ht
theorem OwnL.back (h : OwnL w t_string 1 strE s L) (hb : s.b ≠ none) {k : Nat} (hk : k ≤ s.n) : ∃ g o, (s.sub k s.n 1).b = some ⟨g, o, none⟩ ∧ s.blk = some g ∧ Cells w g o ((L.drop k).flatMap strE) := by
  obtain ⟨g, h1, h2, h3, h4, h5⟩ := h.cells hb
  by_cases hc : s.c = k
  · refine ⟨g, 0, ?_, by simp [Sl.blk, h1], ?_⟩
    · unfold Sl.sub; dsimp only; rw [if_pos hc, h1]
    · rw [List.drop_eq_nil_of_le (by omega)]; exact Cells.n
  · refine ⟨g, k, ?_, by simp [Sl.blk, h1], Cells.of _ _ fun j v hj => ?_⟩
    · unfold Sl.sub; dsimp only; rw [if_neg hc, h1, Nat.mul_one, Option.map_some, add_at, Nat.zero_add]
    · rw [strs_at, Option.map_eq_some_iff] at hj
      obtain ⟨t, ht, rfl⟩ := hj
      rw [List.getElem?_drop] at ht
      exact h5 (k + j) t ht
theorem App.more {m : Nat} (h : App w t_string 1 s (L.flatMap strE) m (ys.flatMap strE) s1 w1) : OwnL w1 t_string 1 strE s1 (L ++ ys) := by
  have := h.own; unfold OwnL; rwa [List.flatMap_append]
theorem own_none {b : Nat} (h : New w b (.cells #[] t_string (0, 0)) w1) : OwnL w1 t_string 1 strE ⟨some ⟨b, 0, none⟩, 0, 0⟩ [] :=
  ⟨rfl, .inr ⟨b, 0, #[], rfl, Nat.zero_le _, h.here, Nat.le_refl _, Nat.zero_le _, rfl, rfl⟩⟩
theorem App.some {m : Nat} {e sz : Nat} {xs news : List Value} (h : App w e sz s xs m news s1 w1) (hs : s.b ≠ none ∨ m ≠ 0) : s1.b ≠ none := fun e => by
  obtain ⟨h1, h2⟩ := h.nil.1 e
  exact hs.elim (fun h => h h1) fun h => h h2
/-- A new text at its place: sorted as before. -/
theorem srt_put {t : BA} {k : Nat} (hs : Srt L) (hk : k ≤ L.length) (ht : t ∉ L) (h1 : ∀ i u, k ≤ i → L[i]? = some u → bless t u = true) (h2 : k = 0 ∨ ∃ u, L[k - 1]? = some u ∧ bless t u = false) : Srt (L.take k ++ [t] ++ L.drop k) := by
  have hlow : ∀ u ∈ L.take k, bless u t = true := by
    intro u hu
    rcases h2 with rfl | ⟨v, hv, hf⟩
    · simp at hu
    · have hvt : v ≠ t := fun e => ht (e ▸ gm hv)
      have hvl : bless v t = true := (bless_tot hvt).resolve_right (by rw [hf]; decide)
      obtain ⟨i, hi⟩ := List.mem_iff_getElem?.1 hu
      have hik : i < k := by have := gl hi; simp at this; omega
      rw [List.getElem?_take_of_lt hik] at hi
      rcases Nat.lt_or_ge i (k - 1) with h | h
      · have := List.pairwise_iff_getElem.1 hs i (k - 1) (gl hi) (gl hv) h
        rw [List.getElem?_eq_getElem (gl hi)] at hi
        rw [List.getElem?_eq_getElem (gl hv)] at hv
        rw [Option.some.inj hi, Option.some.inj hv] at this
        exact bless_trans this hvl
      · have : i = k - 1 := by omega
        subst this
        rw [hi] at hv; cases hv; exact hvl
  have hhigh : ∀ u ∈ L.drop k, bless t u = true := by
    intro u hu
    obtain ⟨i, hi⟩ := List.mem_iff_getElem?.1 hu
    rw [List.getElem?_drop] at hi
    exact h1 (k + i) u (by omega) hi
  have hsp : (L.take k ++ L.drop k).Pairwise fun a b => bless a b = true := by rw [List.take_append_drop]; exact hs
  obtain ⟨p1, p2, p3⟩ := List.pairwise_append.1 hsp
  rw [List.append_assoc]
  refine List.pairwise_append.2 ⟨p1, List.pairwise_cons.2 ⟨hhigh, p2⟩, fun a ha b hb => ?_⟩
  rcases List.mem_cons.1 hb with rfl | hb
  · exact hlow a ha
  · exact p3 a ha b hb
end
end Go.Proofs.Ytchjcjocihckpaa.G
