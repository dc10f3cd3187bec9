/- What lies in memory, said of lists: rows of a slice, rows of one's own; numbers that stay within their kind. -/
import Derived.Test.YtchjcjocihckpaaGm
import Derived.Laws.BitsLemmas
namespace Go.Proofs.Ytchjcjocihckpaa.G
open Go Go.RowKit
/-! Numbers. -/
theorem wr64 {n : Int} (h : -9223372036854775808 ≤ n ∧ n < 9223372036854775808 := by omega) : IntKind.wrap .i64 n = n := by
  rw [IntKind.wrap_i64]; omega
theorem wr8 {n : Int} (h : 0 ≤ n ∧ n < 256 := by omega) : IntKind.wrap .u8 n = n := by
  rw [IntKind.wrap_u8]; omega
/-! Worlds. -/
section
variable {w w1 w2 w3 : World} {b : Nat} {S S' : Nat → Prop}
theorem Priv.then (h : Priv w b w1) (k : Chg (fun x => x = b) w1 w2) : Ext w w2 :=
  h.ext.trans k (fun _ _ h => h) (fun x hx he => by subst he; exact Nat.not_lt.2 h.fresh hx)
theorem New.then {o : Obj} (h : New w b o w1) (k : Chg (fun x => x = b) w1 w2) : Ext w w2 := h.priv.then k
theorem New.lt {o : Obj} (h : New w b o w1) : b < w1.heap.size := lt_of_blk h.here
/-- Blocks that were new at a world count for nothing from there on. -/
theorem Chg.of_new (h : Ext w w1) (k : Chg S w1 w2) (hs : ∀ b, S b → w.heap.size ≤ b) : Ext w w2 :=
  h.trans k (fun _ _ h => h) (fun x hx hS => by have := hs x hS; omega)
theorem Chg.keep (h : Chg S w w1) (hb : b < w.heap.size) (hn : ¬ S b) : w1.heap[b]? = w.heap[b]? := h.blk b hb hn
theorem Ext.keep (h : Ext w w1) (hb : b < w.heap.size) : w1.heap[b]? = w.heap[b]? := h.blk b hb id
end
/-! Rows that may be read. -/
structure Rows {α : Type} (w : World) (k : Nat) (enc : α → List Value) (s : Sl) (xs : List α) : Prop where
  len : s.n = xs.length
  lim : s.n ≤ 9223372036854775807
  cap : s.n ≤ s.c
  has : xs ≠ [] → ∃ b o, s.b = some ⟨b, o, none⟩
  row : ∀ b o, s.b = some ⟨b, o, none⟩ → ∀ i (h : i < xs.length), Cells w b (o + i * k) (enc xs[i])
section
variable {α : Type} {w w1 : World} {k : Nat} {enc : α → List Value} {s : Sl} {xs : List α} {S : Nat → Prop}
theorem Rows.chg (h : Rows w k enc s xs) (x : Chg S w w1) (hn : ∀ b, s.blk = some b → ¬ S b) : Rows w1 k enc s xs :=
  ⟨h.len, h.lim, h.cap, h.has, fun b o e i hi => Cells.chg x (hn b (by simp [Sl.blk, e])) (h.row b o e i hi)⟩
theorem Rows.ext (h : Rows w k enc s xs) (x : Ext w w1) : Rows w1 k enc s xs := h.chg x fun _ _ h => h
theorem Rows.base (h : Rows w k enc s xs) {i : Nat} (hi : i < s.n) : ∃ b o, s.b = some ⟨b, o, none⟩ := h.has (by rintro rfl; rw [h.len] at hi; simp at hi)
theorem Rows.get (h : Rows w k enc s xs) {i : Nat} (hi : i < s.n) : ∃ b o, s.b = some ⟨b, o, none⟩ ∧ ∃ h : i < xs.length, Cells w b (o + i * k) (enc xs[i]) := by
  obtain ⟨b, o, e⟩ := h.base hi
  exact ⟨b, o, e, h.len ▸ hi, h.row b o e i (h.len ▸ hi)⟩
theorem Rows.nil {c : Nat} : Rows w k enc ⟨none, 0, c⟩ [] := ⟨rfl, Nat.zero_le _, Nat.zero_le _, fun h => absurd rfl h, fun _ _ e => by cases e⟩
theorem Rows.take (h : Rows w k enc s xs) {m : Nat} (hm : m ≤ s.n) : Rows w k enc (s.sub 0 m k) (xs.take m) := by
  have hb : (s.sub 0 m k).b = s.b := by
    unfold Sl.sub; dsimp only; split
    · rfl
    · rcases s with ⟨_ | a, n, c⟩
      · rfl
      · simp [Addr.add]
  refine ⟨?_, ?_, ?_, fun hne => ?_, fun b o e i hi => ?_⟩
  · have := h.len; simp [Sl.sub]; omega
  · have := h.lim; simp [Sl.sub]; omega
  · have := h.cap; simp [Sl.sub]; omega
  · rw [hb]; exact h.has (fun e => hne (by simp [e]))
  · rw [hb] at e; simp only [List.length_take] at hi
    have := h.row b o e i (by omega)
    rwa [List.getElem_take]
end
/-! Rows of one's own. -/
def OwnL {α : Type} (w : World) (e k : Nat) (enc : α → List Value) (s : Sl) (xs : List α) : Prop := Own w e k s (xs.flatMap enc)
section
variable {α : Type} {w w1 : World} {e k : Nat} {enc : α → List Value} {s s1 : Sl} {xs : List α} {S : Nat → Prop}
theorem OwnL.chg (h : OwnL w e k enc s xs) (x : Chg S w w1) (hn : ∀ b, s.blk = some b → ¬ S b) : OwnL w1 e k enc s xs := by
  obtain ⟨h1, h2 | ⟨g, cap, cur, h2, h3, h4, h5⟩⟩ := h
  · exact ⟨h1, .inl h2⟩
  · refine ⟨h1, .inr ⟨g, cap, cur, h2, h3, x.get h4 (hn g ?_), h5⟩⟩
    rw [← Sl.own_blk, h2]; rfl
theorem OwnL.ext (h : OwnL w e k enc s xs) (x : Ext w w1) : OwnL w1 e k enc s xs := h.chg x fun _ _ h => h
theorem OwnL.nil : OwnL w e k enc ⟨none, 0, 0⟩ [] := ⟨by simp, .inl ⟨rfl, rfl⟩⟩
theorem OwnL.lt (h : OwnL w e k enc s xs) {b : Nat} (hb : s.blk = some b) : b < w.heap.size := by
  obtain ⟨h1, ⟨h2, h3⟩ | ⟨g, cap, cur, h2, h3, h4, h5⟩⟩ := h
  · rw [← Sl.own_blk, h2] at hb; cases hb
  · rw [← Sl.own_blk, h2] at hb; cases hb; exact lt_of_blk h4
theorem flat_len (hk : ∀ x, (enc x).length = k) : ∀ xs : List α, (xs.flatMap enc).length = xs.length * k
  | [] => by simp
  | x :: xs => by rw [List.flatMap_cons, List.length_append, hk, flat_len hk xs, List.length_cons, Nat.succ_mul]; omega
theorem flat_at (hk : ∀ x, (enc x).length = k) : ∀ (xs : List α) (i : Nat) (h : i < xs.length) (j : Nat), j < k → (xs.flatMap enc)[i * k + j]? = (enc xs[i])[j]?
  | x :: xs, 0, h, j, hj => by
    rw [List.flatMap_cons, Nat.zero_mul, Nat.zero_add, List.getElem?_append_left (by rw [hk]; exact hj)]; rfl
  | x :: xs, i + 1, h, j, hj => by
    rw [List.flatMap_cons, List.getElem?_append_right (by rw [hk, Nat.succ_mul]; omega), hk, show (i + 1) * k + j - k = i * k + j by rw [Nat.succ_mul]; omega]
    exact flat_at hk xs i (by simpa using h) j hj
theorem OwnL.len (h : OwnL w e k enc s xs) (hk : ∀ x, (enc x).length = k) (hk0 : 0 < k) : s.n = xs.length := by
  have := h.1; rw [flat_len hk] at this; exact (Nat.eq_of_mul_eq_mul_right hk0 this).symm
theorem OwnL.blk (h : OwnL w e k enc s xs) (hb : s.b ≠ none) : ∃ g cur, s.b = some ⟨g, 0, none⟩ ∧ w.heap[g]? = some (.cells cur e (0, 0)) ∧ s.n ≤ s.c ∧ s.c ≤ maxLen ∧ cur.size = s.c * k ∧ cur.toList.take (s.n * k) = xs.flatMap enc := by
  obtain ⟨h1, ⟨h2, h3⟩ | ⟨g, cap, cur, h2, h3, h4, h5, h6, h7, h8⟩⟩ := h
  · rcases s with ⟨b, n, c⟩; simp only [Sl.v, Value.slice.injEq] at h2; exact absurd h2.1 hb
  · rcases s with ⟨b, n, c⟩; simp only [Sl.v, Value.slice.injEq] at h2; obtain ⟨rfl, -, rfl⟩ := h2
    exact ⟨g, cur, rfl, h4, h5, h6, h7, h8⟩
theorem OwnL.cap (h : OwnL w e k enc s xs) : s.n ≤ s.c := by
  by_cases hb : s.b = none
  · obtain ⟨h1, ⟨h2, h3⟩ | ⟨g, cap, cur, h2, h3, h4, h5, h6, h7, h8⟩⟩ := h
    · omega
    · rcases s with ⟨b, n, c⟩; simp only [Sl.v, Value.slice.injEq] at h2; obtain ⟨rfl, -, rfl⟩ := h2; exact h5
  · obtain ⟨_, _, _, _, h, _⟩ := h.blk hb; exact h
theorem OwnL.lim (h : OwnL w e k enc s xs) : s.n ≤ 9223372036854775807 := by
  obtain ⟨h1, ⟨h2, h3⟩ | ⟨g, cap, cur, h2, h3, h4, h5, h6, h7, h8⟩⟩ := h
  · omega
  · have : maxLen = 9223372036854775807 := rfl
    omega
theorem OwnL.rows (h : OwnL w e k enc s xs) (hk : ∀ x, (enc x).length = k) (hk0 : 0 < k) : Rows w k enc s xs := by
  refine ⟨h.len hk hk0, h.lim, h.cap, fun hne => ?_, fun b o eb i hi => ?_⟩
  · have hl := h.len hk hk0
    have : s.b ≠ none := by
      intro hb
      obtain ⟨h1, ⟨h2, h3⟩ | ⟨g, cap, cur, h2, _⟩⟩ := h
      · rw [h3] at hl; exact hne (List.length_eq_zero_iff.1 hl.symm)
      · rcases s with ⟨b, n, c⟩; simp only [Sl.v, Value.slice.injEq] at h2; rw [h2.1] at hb; cases hb
    obtain ⟨g, cur, hb, _⟩ := h.blk this
    exact ⟨g, 0, hb⟩
  · have hl := h.len hk hk0
    obtain ⟨g, cur, hb, h4, h5, h6, h7, h8⟩ := h.blk (by rw [eb]; simp)
    rw [eb] at hb; cases hb
    refine Cells.of _ _ fun j v hj => cell_blk h4 ?_
    have hjk : j < k := by rw [← hk xs[i]]; exact (List.getElem?_eq_some_iff.1 hj).1
    have h9 := flat_at hk xs i hi j hjk
    rw [← h8, hj] at h9
    have h10 : i * k + j < s.n * k := by
      rw [hl]
      exact Nat.lt_of_lt_of_le (by rw [Nat.succ_mul]; omega : i * k + j < (i + 1) * k) (Nat.mul_le_mul_right _ hi)
    rw [List.getElem?_take_of_lt h10, Array.getElem?_toList] at h9
    rwa [Nat.zero_add]
theorem App.ownL {x : α} {v : List Value} (h : App w e k s (xs.flatMap enc) 1 v s1 w1) (hv : v = enc x := by rfl) : OwnL w1 e k enc s1 (xs ++ [x]) := by
  subst hv; have := h.own; unfold OwnL; rwa [List.flatMap_append, List.flatMap_singleton]
theorem App.lt {news xs : List Value} {m : Nat} (h : App w e k s xs m news s1 w1) {b : Nat} (hb : s1.blk = some b) : s.blk = some b ∨ w.heap.size ≤ b := by
  rcases h.loc with h | ⟨b', h, hl⟩
  · exact .inl (h ▸ hb)
  · rw [h] at hb; cases hb; exact .inr hl
/-- A block that was written out. -/
theorem Rows.lit {b c : Nat} {cs : Array Value} {t : TypeId} {fr : Nat × Nat} (h : w.heap[b]? = some (.cells cs t fr)) (hk : ∀ x, (enc x).length = k) (hcs : cs.toList = xs.flatMap enc := by rfl) (hl : xs.length ≤ c := by decide) (hc : c ≤ 9223372036854775807 := by decide) {n : Nat} (hn : n = xs.length := by rfl) :
    Rows w k enc ⟨some ⟨b, 0, none⟩, n, c⟩ xs := by
  subst hn
  refine ⟨rfl, by show xs.length ≤ _; omega, hl, fun _ => ⟨b, 0, rfl⟩, fun b' o e i hi => ?_⟩
  cases e
  refine Cells.of _ _ fun j v hj => cell_blk h ?_
  have hjk : j < k := by rw [← hk xs[i]]; exact (List.getElem?_eq_some_iff.1 hj).1
  have h9 := flat_at hk xs i hi j hjk
  rw [← hcs, hj, Array.getElem?_toList] at h9
  rwa [Nat.zero_add]
end
end Go.Proofs.Ytchjcjocihckpaa.G
