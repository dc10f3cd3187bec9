/- Plain: a vocabulary: depths, uses, the longest texts. -/
import Derived.Test.YtchjcjocihckpaaPb
namespace Go.Proofs.Ytchjcjocihckpaa.G
open Go Go.RowKit
def stepD (f : BA → Option Int) (m : Mg) : BA → Option Int := fun s => if m.tx = s then some (1 + max ((f m.1).getD 0) ((f m.2).getD 0)) else f s
/-- How deep a text lies; none: it is no text of the vocabulary. -/
def depM (ms : List Mg) : BA → Option Int := ms.foldl stepD fun s => if s.size = 1 then some 0 else none
theorem depM_nil (s : BA) : depM [] s = if s.size = 1 then some 0 else none := rfl
theorem depM_snoc (ms : List Mg) (m : Mg) : depM (ms ++ [m]) = stepD (depM ms) m := by simp [depM, List.foldl_append]
def stepU (f : BA → Int) (m : Mg) : BA → Int := fun s => f s + (if m.1 = s then 1 else 0) + (if m.2 = s then 1 else 0)
def usesM (ms : List Mg) : BA → Int := ms.foldl stepU fun _ => 0
theorem usesM_snoc (ms : List Mg) (m : Mg) : usesM (ms ++ [m]) = stepU (usesM ms) m := by simp [usesM, List.foldl_append]
def mostM (ms : List Mg) : Int := ms.foldl (fun n m => max n (m.tx.size : Int)) 1
theorem mostM_snoc (ms : List Mg) (m : Mg) : mostM (ms ++ [m]) = max (mostM ms) (m.tx.size : Int) := by simp [mostM, List.foldl_append]
theorem snoc_ind {α : Type} {p : List α → Prop} (h0 : p []) (h1 : ∀ l x, p l → p (l ++ [x])) (l : List α) : p l := by
  have : ∀ n (l : List α), l.length = n → p l := by
    intro n
    induction n with
    | zero => intro l hl; rw [List.length_eq_zero_iff.1 hl]; exact h0
    | succ n ih =>
      intro l hl
      have hne : l ≠ [] := by intro e; rw [e] at hl; cases hl
      rw [← List.dropLast_concat_getLast hne]
      exact h1 _ _ (ih _ (by simp [hl]))
  exact this _ l rfl
theorem depM_le (ms : List Mg) : ∀ s v, depM ms s = some v → 0 ≤ v ∧ v ≤ ms.length := by
  refine snoc_ind (p := fun ms => ∀ s v, depM ms s = some v → 0 ≤ v ∧ v ≤ ms.length) ?_ ?_ ms
  · intro s v h; rw [depM_nil] at h; split at h
    · cases h; simp
    · cases h
  · intro l m ih s v h
    rw [depM_snoc] at h; unfold stepD at h
    have g : ∀ t, 0 ≤ (depM l t).getD 0 ∧ (depM l t).getD 0 ≤ l.length := fun t => by
      cases e : depM l t with
      | none => simp
      | some v => exact ih t v e
    have := g m.1
    have := g m.2
    simp only [List.length_append, List.length_singleton]
    split at h
    · cases h; omega
    · have := ih s v h; omega
theorem depM_some (ms : List Mg) : ∀ s, (depM ms s).isSome = side s ms := by
  refine snoc_ind (p := fun ms => ∀ s, (depM ms s).isSome = side s ms) ?_ ?_ ms
  · intro s; rw [depM_nil]; unfold side; by_cases h : s.size = 1 <;> simp [h]
  · intro l m ih s
    rw [depM_snoc]; unfold stepD
    have : side s (l ++ [m]) = (side s l || decide (m.tx = s)) := by unfold side; simp [Bool.or_assoc]
    rw [this, ← ih]
    by_cases h : m.tx = s <;> simp [h]
theorem usesM_le (ms : List Mg) : ∀ s, 0 ≤ usesM ms s ∧ usesM ms s ≤ 2 * ms.length := by
  refine snoc_ind (p := fun ms => ∀ s, 0 ≤ usesM ms s ∧ usesM ms s ≤ 2 * ms.length) ?_ ?_ ms
  · intro s; simp [usesM]
  · intro l m ih s
    rw [usesM_snoc]; unfold stepU
    have := ih s
    simp only [List.length_append, List.length_singleton]
    by_cases h1 : m.1 = s <;> by_cases h2 : m.2 = s <;> simp only [h1, h2, if_true, if_false] <;> omega
theorem mostM_ge (ms : List Mg) : 1 ≤ mostM ms ∧ (∀ m ∈ ms, (m.tx.size : Int) ≤ mostM ms) ∧ (∀ B : Int, 1 ≤ B → (∀ m ∈ ms, (m.tx.size : Int) ≤ B) → mostM ms ≤ B) := by
  refine snoc_ind (p := fun ms => 1 ≤ mostM ms ∧ (∀ m ∈ ms, (m.tx.size : Int) ≤ mostM ms) ∧ (∀ B : Int, 1 ≤ B → (∀ m ∈ ms, (m.tx.size : Int) ≤ B) → mostM ms ≤ B)) ?_ ?_ ms
  · simp [mostM]
  · intro l m ⟨h1, h2, h3⟩
    rw [mostM_snoc]
    refine ⟨by omega, fun k hk => ?_, fun B hB h => ?_⟩
    · rcases List.mem_append.1 hk with hk | hk
      · have := h2 k hk; omega
      · simp only [List.mem_singleton] at hk; subst hk; omega
    · have := h3 B hB fun k hk => h k (List.mem_append_left _ hk)
      have := h m (by simp)
      omega
theorem good_of_check {ms : List Mg} (h : (check ms).2 = 0) : good ms := by
  have key : ∀ (n : Nat) (pre : List Mg), pre ++ ms.drop n = ms → pre.length = n → (checkFrom pre (ms.drop n)).2 = 0 → ∀ i m, n ≤ i → ms[i]? = some m → bad (ms.take i) m = 0 := by
    intro n
    have : ∀ d n, d = ms.length - n → ∀ pre : List Mg, pre ++ ms.drop n = ms → pre.length = n → (checkFrom pre (ms.drop n)).2 = 0 → ∀ i m, n ≤ i → ms[i]? = some m → bad (ms.take i) m = 0 := by
      intro d
      induction d with
      | zero => intro n hd pre _ _ _ i m hi hm; have := gl hm; omega
      | succ d ih =>
        intro n hd pre hp hn hc i m hi hm
        have hlt : n < ms.length := by omega
        have ht : ms.take n = pre := by rw [← hp, List.take_left' hn]
        rw [List.drop_eq_getElem_cons hlt, checkFrom] at hc
        split at hc
        · rename_i h; exact absurd hc h
        · rename_i h
          rcases Nat.eq_or_lt_of_le hi with e | e
          · subst e
            rw [List.getElem?_eq_getElem hlt] at hm; cases hm
            rw [ht]; omega
          · refine ih (n + 1) (by omega) (pre ++ [ms[n]]) ?_ (by simp [hn]) hc i m e hm
            rw [List.append_assoc, List.singleton_append, ← List.drop_eq_getElem_cons hlt]; exact hp
    exact this _ n rfl
  intro i m hm
  exact key 0 [] rfl rfl (by rw [List.drop_zero]; exact h) i m (Nat.zero_le _) hm
theorem good.take {ms : List Mg} (h : good ms) (n : Nat) : good (ms.take n) := by
  intro i m hm
  rw [List.getElem?_take] at hm
  split at hm
  · rename_i hi
    rw [List.take_take, Nat.min_eq_left (by omega)]
    exact h i m hm
  · cases hm
theorem good.sd {ms : List Mg} (h : good ms) {i : Nat} {m : Mg} (hm : ms[i]? = some m) : side m.1 (ms.take i) = true ∧ side m.2 (ms.take i) = true ∧ m.1.size + m.2.size ≤ 65536 ∧ ∀ k ∈ ms.take i, k.tx ≠ m.tx := by
  have := h i m hm
  unfold bad at this
  split at this
  · cases this
  · rename_i h7
    split at this
    · cases this
    · split at this
      · cases this
      · rename_i h4 h8
        simp only [Bool.or_eq_true, Bool.not_eq_true', not_or, Bool.not_eq_false] at h7
        refine ⟨h7.1, h7.2, by omega, fun k hk e => h8 (List.any_eq_true.2 ⟨k, hk, decide_eq_true e⟩)⟩
theorem good.pos {ms : List Mg} (h : good ms) : ∀ (i : Nat) (m : Mg), ms[i]? = some m → 1 ≤ m.1.size ∧ 1 ≤ m.2.size := by
  intro i
  induction i using Nat.strongRecOn with
  | ind i ih =>
    intro m hm
    obtain ⟨a, b, _⟩ := h.sd hm
    have key : ∀ s : BA, side s (ms.take i) = true → 1 ≤ s.size := by
      intro s hs
      unfold side at hs
      rw [Bool.or_eq_true, decide_eq_true_eq, List.any_eq_true] at hs
      rcases hs with hs | ⟨k, hk, he⟩
      · omega
      · obtain ⟨j, hj⟩ := List.mem_iff_getElem?.1 hk
        have hji : j < i := by have := gl hj; simp at this; omega
        rw [List.getElem?_take_of_lt hji] at hj
        have := ih j hji k hj
        rw [← of_decide_eq_true he, ba_append_size]; omega
    exact ⟨key _ a, key _ b⟩
theorem depM_at {ms : List Mg} (h : good ms) {i : Nat} {m : Mg} (hm : ms[i]? = some m) : depM ms m.tx = some (1 + max ((depM (ms.take i) m.1).getD (-1)) ((depM (ms.take i) m.2).getD (-1))) := by
  have hi := gl hm
  have key : ∀ n, i < n → depM (ms.take n) m.tx = depM (ms.take (i + 1)) m.tx := by
    intro n
    induction n with
    | zero => intro h; omega
    | succ n ih =>
      intro hn
      rcases Nat.eq_or_lt_of_le (Nat.le_of_lt_succ hn) with e | e
      · subst e; rfl
      · rw [← ih e]
        cases hk : ms[n]? with
        | none => rw [List.take_of_length_le (Nat.le_of_lt (by have := List.getElem?_eq_none_iff.1 hk; omega)), List.take_of_length_le (List.getElem?_eq_none_iff.1 hk)]
        | some k =>
          rw [tk hk, depM_snoc]; unfold stepD
          rw [if_neg]
          intro e2
          obtain ⟨_, _, _, h4⟩ := h.sd hk
          exact h4 m (List.mem_of_getElem? (i := i) (by rw [List.getElem?_take_of_lt e]; exact hm)) e2.symm
  have := key ms.length hi
  rw [List.take_length] at this
  rw [this, tk hm, depM_snoc]; unfold stepD
  rw [if_pos rfl]
  obtain ⟨a, b, _⟩ := h.sd hm
  rw [← depM_some] at a b
  obtain ⟨x, hx⟩ := Option.isSome_iff_exists.1 a
  obtain ⟨y, hy⟩ := Option.isSome_iff_exists.1 b
  rw [hx, hy]; rfl
/-! The longest texts. -/
def cutn (p : Nat → Bool) : Nat → Nat
  | 0 => 0
  | n + 1 => if n = 0 then 1 else if p (n + 1) then n + 1 else cutn p n
theorem cutn_pos (p : Nat → Bool) : ∀ n, 1 ≤ n → 1 ≤ cutn p n ∧ cutn p n ≤ n
  | n + 1, _ => by
    unfold cutn
    by_cases h : n = 0
    · rw [if_pos h]; omega
    · rw [if_neg h]
      by_cases h2 : p (n + 1)
      · rw [if_pos h2]; omega
      · rw [if_neg h2]; have := cutn_pos p n (by omega); omega
theorem cutn_step {p : Nat → Bool} {n : Nat} (h : 1 < n) (hp : p n = false) : cutn p n = cutn p (n - 1) := by
  obtain ⟨k, rfl⟩ : ∃ k, n = k + 1 := ⟨n - 1, by omega⟩
  rw [cutn, if_neg (by omega), if_neg (by rw [hp]; decide)]; rfl
theorem cutn_hit {p : Nat → Bool} {n : Nat} (hp : n ≤ 1 ∨ p n = true) : cutn p n = n := by
  match n, hp with
  | 0, _ => rfl
  | k + 1, hp =>
    unfold cutn
    by_cases h : k = 0
    · rw [if_pos h, h]
    · rw [if_neg h, if_pos (hp.resolve_left (by omega))]
theorem cutn_min {p : Nat → Bool} {M : Nat} (hM : 1 ≤ M) : ∀ n, (∀ i, M < i → i ≤ n → p i = false) → cutn p n = cutn p (min n M)
  | 0, _ => by simp
  | n + 1, h => by
    rcases Nat.lt_or_ge M (n + 1) with e | e
    · rw [cutn_step (by omega) (h (n + 1) e (Nat.le_refl _)), Nat.add_sub_cancel, cutn_min hM n fun i h1 h2 => h i h1 (by omega)]
      rw [Nat.min_eq_right (by omega), Nat.min_eq_right (by omega)]
    · rw [Nat.min_eq_left e]
def longF (p : BA → Bool) : Nat → BA → List BA
  | 0, _ => []
  | f + 1, s => if s.size = 0 then [] else
    let n := cutn (fun n => p (s.extract 0 n)) s.size
    s.extract 0 n :: longF p f (s.extract n s.size)
/-- A word in its longest texts. -/
def longest (p : BA → Bool) (s : BA) : List BA := longF p s.size s
theorem ext_size {s : BA} {l h : Nat} (hh : h ≤ s.size) : (s.extract l h).size = h - l := by
  rw [ByteArray.size_extract, Nat.min_eq_left hh]
theorem longF_fuel (p : BA → Bool) : ∀ f s, s.size ≤ f → longF p f s = longest p s := by
  have : ∀ n s f, s.size = n → n ≤ f → longF p f s = longF p n s := by
    intro n
    induction n using Nat.strongRecOn with
    | ind n ih =>
      intro s f hs hf
      match n, f, hf with
      | 0, 0, _ => rfl
      | 0, f + 1, _ => simp [longF, hs]
      | n + 1, f + 1, hf =>
        simp only [longF]
        rw [if_neg (by omega), if_neg (by omega)]
        have hc := cutn_pos (fun n => p (s.extract 0 n)) s.size (by omega)
        have hz : (s.extract (cutn (fun n => p (s.extract 0 n)) s.size) s.size).size ≤ n := by rw [ext_size (Nat.le_refl _)]; omega
        rw [ih _ (by omega) _ f rfl (by omega), ih _ (by omega) _ n rfl hz]
  intro f s h
  rw [this s.size s f rfl h]; rfl
theorem longest_nil (p : BA → Bool) {s : BA} (h : s.size = 0) : longest p s = [] := by
  unfold longest; rw [h]; rfl
theorem longest_cons (p : BA → Bool) {s : BA} (h : s.size ≠ 0) : longest p s = s.extract 0 (cutn (fun n => p (s.extract 0 n)) s.size) :: longest p (s.extract (cutn (fun n => p (s.extract 0 n)) s.size) s.size) := by
  obtain ⟨k, hk⟩ : ∃ k, s.size = k + 1 := ⟨s.size - 1, by omega⟩
  have hc := cutn_pos (fun n => p (s.extract 0 n)) s.size (by omega)
  conv => lhs; unfold longest; rw [hk]
  rw [longF, if_neg h]
  show _ :: longF p k _ = _
  rw [longF_fuel p k _ (by rw [ext_size (Nat.le_refl _)]; omega)]
theorem longest_len (p : BA → Bool) : ∀ s, (longest p s).length ≤ s.size := by
  have : ∀ n s, s.size = n → (longest p s).length ≤ n := by
    intro n
    induction n using Nat.strongRecOn with
    | ind n ih =>
      intro s hs
      by_cases h : s.size = 0
      · rw [longest_nil p h]; simp
      · rw [longest_cons p h]
        have hc := cutn_pos (fun n => p (s.extract 0 n)) s.size (by omega)
        have hz := ext_size (s := s) (l := cutn (fun n => p (s.extract 0 n)) s.size) (Nat.le_refl _)
        have := ih _ (by omega) _ hz
        simp only [List.length_cons]; omega
  exact fun s => this _ s rfl
end Go.Proofs.Ytchjcjocihckpaa.G
