/- Plain: what is learnt from words, by the document; learnt merges are right. -/
import Derived.Test.YtchjcjocihckpaaPmC
namespace Go.Proofs.Ytchjcjocihckpaa.G
open Go Go.RowKit
/-- A merge's pair stands in a word. -/
def adjT (m : Mg) (l : List BA) : Prop := ∃ p r, l = p ++ m.1 :: m.2 :: r
theorem joinT_split (m : Mg) (u : List BA) : ∀ (x y : List BA), joinT m u = x ++ y → ∃ x0 y0, u = x0 ++ y0 ∧ joinT m x0 = x ∧ joinT m y0 = y := by
  induction u using two_ind with
  | h0 =>
    intro x y h
    have h := List.append_eq_nil_iff.1 (show x ++ y = [] from h.symm)
    exact ⟨[], [], rfl, h.1.symm, h.2.symm⟩
  | h1 a =>
    intro x y h
    match x with
    | [] => exact ⟨[], [a], rfl, rfl, h⟩
    | b :: x' =>
      have h : [a] = b :: (x' ++ y) := h
      injection h with h1 h2
      subst h1
      have h2 := List.append_eq_nil_iff.1 h2.symm
      exact ⟨[a], [], rfl, by rw [h2.1]; rfl, h2.2.symm⟩
  | h2 a b l i1 i2 =>
    intro x y h
    match x with
    | [] => exact ⟨[], a :: b :: l, rfl, rfl, h⟩
    | c :: x' =>
      by_cases hit : a = m.1 ∧ b = m.2
      · rw [joinT_hit hit, List.cons_append] at h
        injection h with h1 h2
        obtain ⟨x0, y0, e1, e2, e3⟩ := i1 x' y h2
        exact ⟨a :: b :: x0, y0, by rw [e1]; rfl, by rw [joinT_hit hit, e2, h1], e3⟩
      · rw [joinT_miss hit, List.cons_append] at h
        injection h with h1 h2
        obtain ⟨x0, y0, e1, e2, e3⟩ := i2 x' y h2
        refine ⟨a :: x0, y0, by rw [List.cons_append, ← e1], ?_, e3⟩
        match x0, e1, e2 with
        | [], _, e2 => rw [← e2, ← h1]; rfl
        | d :: x1, e1, e2 =>
          rw [List.cons_append] at e1
          injection e1 with e4 e5
          subst e4
          rw [joinT_miss hit, e2, h1]
theorem flatB_ones (l : List UInt8) : flatB (l.map one) = ⟨l.toArray⟩ := by
  induction l with
  | nil => rfl
  | cons c l ih =>
    rw [List.map_cons, flatB_cons, ih]
    apply ByteArray.ext
    rw [ByteArray.data_append]
    simp [one]
/-- What stands in a word stands there as if it stood alone. -/
theorem splitT_iso (ms : List Mg) (t : BA) : ∀ p q r : List BA, splitT ms t = p ++ q ++ r → q = splitT ms (flatB q) := by
  induction ms using snoc_ind with
  | h0 =>
    intro p q r h
    have h : t.data.toList.map one = p ++ q ++ r := h
    obtain ⟨l1, l2, e1, e2, e3⟩ := List.map_eq_append_iff.1 h
    obtain ⟨l3, l4, e4, e5, e6⟩ := List.map_eq_append_iff.1 e2
    rw [← e6, flatB_ones]
    show _ = bytesT _
    simp [bytesT]
  | h1 ms m ih =>
    intro p q r h
    rw [splitT_snoc] at h
    obtain ⟨a0, r0, e1, e2, e3⟩ := joinT_split m _ _ _ h
    obtain ⟨p0, q0, e4, e5, e6⟩ := joinT_split m _ _ _ e2
    have := ih p0 q0 r0 (by rw [e1, e4])
    have hf : flatB q = flatB q0 := by rw [← e6, flatB_joinT]
    rw [splitT_snoc, hf, ← this, e6]
theorem joinT_mem {m : Mg} {u : BA} {l : List BA} (h : u ∈ joinT m l) : u = m.tx ∨ u ∈ l := by
  induction l using two_ind with
  | h0 => cases h
  | h1 x => exact .inr h
  | h2 x y l i1 i2 =>
    by_cases hit : x = m.1 ∧ y = m.2
    · rw [joinT_hit hit] at h
      rcases List.mem_cons.1 h with h | h
      · exact .inl h
      · rcases i1 h with h | h
        · exact .inl h
        · exact .inr (by simp [h])
    · rw [joinT_miss hit] at h
      rcases List.mem_cons.1 h with h | h
      · exact .inr (by simp [h])
      · rcases i2 h with h | h
        · exact .inl h
        · exact .inr (List.mem_cons_of_mem _ h)
theorem side_snoc {ms : List Mg} {u : BA} (m : Mg) (h : side u ms = true) : side u (ms ++ [m]) = true := by
  unfold side at h ⊢
  rw [List.any_append, ← Bool.or_assoc, h]; rfl
theorem splitT_side (ms : List Mg) (t : BA) : ∀ u ∈ splitT ms t, side u ms = true := by
  induction ms using snoc_ind with
  | h0 =>
    intro u hu
    obtain ⟨c, _, rfl⟩ := List.mem_map.1 (show u ∈ t.data.toList.map one from hu)
    unfold side; rw [one_size]; rfl
  | h1 ms m ih =>
    intro u hu
    rw [splitT_snoc] at hu
    rcases joinT_mem hu with rfl | hu
    · unfold side; simp
    · exact side_snoc m (ih u hu)
theorem adj_flat {m : Mg} {l : List BA} (h : adjT m l) : m.1.size + m.2.size ≤ (flatB l).size := by
  obtain ⟨p, r, rfl⟩ := h
  rw [flatB_app, flatB_cons, flatB_cons, ba_append_size, ba_append_size, ba_append_size]; omega
/-- Merges that were learnt: each one's pair stands in a word as the ones before it leave it. -/
def Lrn (ts : List BA) (ms : List Mg) : Prop := ∀ k m, ms[k]? = some m → ∃ t ∈ ts, adjT m (splitT (ms.take k) t)
theorem adj_iso {ms : List Mg} {m : Mg} {t : BA} (h : adjT m (splitT ms t)) : [m.1, m.2] = splitT ms m.tx := by
  obtain ⟨p, r, e⟩ := h
  have := splitT_iso ms t p [m.1, m.2] r (by rw [e]; simp)
  rwa [show flatB [m.1, m.2] = m.tx by rw [flatB_cons, flatB_cons]; show m.1 ++ (m.2 ++ ByteArray.empty) = _; simp] at this
theorem lrn_good {ts : List BA} {ms : List Mg} (h : Lrn ts ms) (hz : ∀ t ∈ ts, t.size ≤ 65536) : good ms := by
  intro k m hm
  obtain ⟨t, ht, ha⟩ := h k m hm
  have h1 := splitT_side (ms.take k) t
  have hsz := adj_flat ha
  rw [flatB_split] at hsz
  have htz := hz t ht
  have hiso := adj_iso ha
  obtain ⟨p, r, e⟩ := ha
  have s1 := h1 m.1 (by rw [e]; simp)
  have s2 := h1 m.2 (by rw [e]; simp)
  unfold bad
  rw [s1, s2, if_neg (by simp), if_neg (by omega), if_neg]
  rw [Bool.not_eq_true, List.any_eq_false]
  intro q hq hqe
  have hqe := of_decide_eq_true hqe
  obtain ⟨j, hj⟩ := List.mem_iff_getElem?.1 hq
  have hjk : j < k := by have := gl hj; rw [List.length_take] at this; omega
  rw [List.getElem?_take_of_lt hjk] at hj
  obtain ⟨t', _, ha'⟩ := h j q hj
  have hiso' := adj_iso ha'
  rw [hqe] at hiso'
  have stay : ∀ d, j + 1 + d ≤ k → splitT (ms.take (j + 1 + d)) m.tx = [m.tx] := by
    intro d
    induction d with
    | zero =>
      intro _
      rw [Nat.add_zero, tk hj, splitT_snoc, ← hiso', joinT_hit ⟨rfl, rfl⟩, hqe]; rfl
    | succ d ih =>
      intro hd
      have hl : j + 1 + d < ms.length := by have := gl hm; omega
      rw [show j + 1 + (d + 1) = j + 1 + d + 1 by omega, tk (List.getElem?_eq_getElem hl), splitT_snoc, ih (by omega)]; rfl
  have := stay (k - (j + 1)) (by omega)
  rw [show j + 1 + (k - (j + 1)) = k by omega, ← hiso] at this
  have := congrArg List.length this
  simp at this
theorem check_good {ms : List Mg} (h : good ms) : check ms = (-1, 0) := by
  have key : ∀ i, i ≤ ms.length → check ms = checkFrom (ms.take i) (ms.drop i) := by
    intro i
    induction i with
    | zero => intro _; rfl
    | succ i ih =>
      intro hi
      have hm : ms[i]? = some ms[i] := List.getElem?_eq_getElem (by omega)
      exact (check_at hm (ih (by omega))).2 (h i _ hm)
  exact check_end (Nat.le_refl _) (key _ (Nat.le_refl _))
/-! Counts of pairs. -/
def atT (x : BA) (l : List BA) (p : Mg) : Nat := match l with
  | [] => 0
  | y :: _ => if x = p.1 ∧ y = p.2 then 1 else 0
def cntT : List BA → Mg → Nat
  | [], _ => 0
  | x :: l, p => atT x l p + cntT l p
theorem cntT_le (p : Mg) : ∀ l : List BA, cntT l p ≤ l.length - 1
  | [] => Nat.le_refl _
  | [x] => Nat.le_refl _
  | x :: y :: l => by
    have := cntT_le p (y :: l)
    have h : atT x (y :: l) p ≤ 1 := by unfold atT; split <;> (try split) <;> omega
    rw [cntT]; simp only [List.length_cons] at this ⊢; omega
theorem cntT_adj {p : Mg} : ∀ {l : List BA}, 0 < cntT l p → adjT p l
  | [], h => absurd h (Nat.lt_irrefl _)
  | [x], h => absurd h (Nat.lt_irrefl _)
  | x :: y :: l, h => by
    by_cases e : x = p.1 ∧ y = p.2
    · exact ⟨[], l, by rw [e.1, e.2]; rfl⟩
    · rw [cntT] at h
      have h0 : atT x (y :: l) p = 0 := if_neg e
      rw [h0, Nat.zero_add] at h
      obtain ⟨a, b, e⟩ := cntT_adj h
      exact ⟨x :: a, b, by rw [e]; rfl⟩
theorem adj_cntT {p : Mg} {l : List BA} (h : adjT p l) : 0 < cntT l p := by
  obtain ⟨a, b, rfl⟩ := h
  induction a with
  | nil => show 0 < atT p.1 (p.2 :: b) p + _; unfold atT; simp; omega
  | cons c a ih => show 0 < _ + cntT (a ++ p.1 :: p.2 :: b) p; omega
theorem joinT_less {m : Mg} {l : List BA} (h : adjT m l) : (joinT m l).length < l.length := by
  obtain ⟨a, b, rfl⟩ := h
  have key : ∀ (n : Nat) (a : List BA), a.length = n → (joinT m (a ++ m.1 :: m.2 :: b)).length < (a ++ m.1 :: m.2 :: b).length := by
    intro n
    induction n using Nat.strongRecOn with
    | ind n ih =>
      intro a ha
      match a, ha with
      | [], _ =>
        rw [List.nil_append, joinT_hit ⟨rfl, rfl⟩]
        have := joinT_len m b
        simp only [List.length_cons]; omega
      | [x], _ =>
        by_cases hit : x = m.1 ∧ m.1 = m.2
        · show (joinT m (x :: m.1 :: m.2 :: b)).length < _
          rw [joinT_hit hit]
          have := joinT_len m (m.2 :: b)
          simp only [List.length_cons, List.length_append] at this ⊢; omega
        · show (joinT m (x :: m.1 :: m.2 :: b)).length < _
          rw [joinT_miss hit, joinT_hit ⟨rfl, rfl⟩]
          have := joinT_len m b
          simp only [List.length_cons, List.length_append] at this ⊢; omega
      | x :: y :: a, ha =>
        simp only [List.length_cons] at ha
        by_cases hit : x = m.1 ∧ y = m.2
        · have := ih a.length (by omega) a rfl
          show (joinT m (x :: y :: (a ++ m.1 :: m.2 :: b))).length < _
          rw [joinT_hit hit]
          simp only [List.length_cons, List.length_append] at this ⊢; omega
        · have := ih (y :: a).length (by simp only [List.length_cons]; omega) (y :: a) rfl
          show (joinT m (x :: y :: (a ++ m.1 :: m.2 :: b))).length < _
          rw [joinT_miss hit]
          simp only [List.cons_append, List.length_cons, List.length_append] at this ⊢; omega
  exact key _ a rfl
/-- How often a pair stands in some words, each as often as it counts. -/
def tot : List (List BA) → List Int → Mg → Int
  | l :: ws, c :: cs, p => c * (cntT l p : Int) + tot ws cs p
  | _, _, _ => 0
theorem tot_nn {cs : List Int} (p : Mg) (hc : ∀ c ∈ cs, 1 ≤ c) : ∀ ws : List (List BA), 0 ≤ tot ws cs p := by
  induction cs with
  | nil => intro ws; cases ws <;> exact Int.le_refl _
  | cons c cs ih =>
    intro ws
    match ws with
    | [] => exact Int.le_refl _
    | l :: ws =>
      have h1 := ih (fun x hx => hc x (by simp [hx])) ws
      have h2 := hc c (by simp)
      have := Int.mul_nonneg (show 0 ≤ c by omega) (show (0 : Int) ≤ (cntT l p : Int) by omega)
      rw [tot]; omega
theorem tot_adj {p : Mg} : ∀ {ws : List (List BA)} {cs : List Int}, tot ws cs p ≠ 0 → ∃ l ∈ ws, adjT p l
  | [], _, h => absurd (by unfold tot; rfl) h
  | l :: ws, [], h => absurd (by unfold tot; rfl) h
  | l :: ws, c :: cs, h => by
    by_cases e : 0 < cntT l p
    · exact ⟨l, by simp, cntT_adj e⟩
    · have e0 : cntT l p = 0 := by omega
      rw [tot, e0] at h
      obtain ⟨x, hx, ha⟩ := tot_adj (ws := ws) (cs := cs) (by simpa using h)
      exact ⟨x, by simp [hx], ha⟩
theorem adj_tot {p : Mg} : ∀ {ws : List (List BA)} {cs : List Int}, (∀ c ∈ cs, 1 ≤ c) → ws.length ≤ cs.length → (∃ l ∈ ws, adjT p l) → 0 < tot ws cs p
  | [], _, _, _, ⟨l, hl, _⟩ => nomatch hl
  | l :: ws, [], _, hl, _ => absurd hl (by simp)
  | l :: ws, c :: cs, hc, hl, ⟨x, hx, ha⟩ => by
    have h2 := hc c (by simp)
    have hn := tot_nn p (fun x hx => hc x (by simp [hx])) ws (cs := cs)
    rw [tot]
    rcases List.mem_cons.1 hx with rfl | hx
    · have := adj_cntT ha
      have := Int.mul_pos (show 0 < c by omega) (show (0 : Int) < (cntT x p : Int) by omega)
      omega
    · have := adj_tot (p := p) (ws := ws) (cs := cs) (fun x hx => hc x (by simp [hx])) (by simpa using hl) ⟨x, hx, ha⟩
      have := Int.mul_nonneg (show 0 ≤ c by omega) (show (0 : Int) ≤ (cntT l p : Int) by omega)
      omega
/-- Merges in order: by the left side, then by the right one. -/
def lessM (a b : Mg) : Bool := bless a.1 b.1 || (decide (a.1 = b.1) && bless a.2 b.2)
theorem lessM_trans {a b c : Mg} (h1 : lessM a b = true) (h2 : lessM b c = true) : lessM a c = true := by
  unfold lessM at h1 h2 ⊢
  simp only [Bool.or_eq_true, Bool.and_eq_true, decide_eq_true_eq] at h1 h2 ⊢
  rcases h1 with h1 | ⟨e1, h1⟩
  · rcases h2 with h2 | ⟨e2, h2⟩
    · exact .inl (bless_trans h1 h2)
    · exact .inl (e2 ▸ h1)
  · rcases h2 with h2 | ⟨e2, h2⟩
    · exact .inl (e1 ▸ h2)
    · exact .inr ⟨e1.trans e2, bless_trans h1 h2⟩
theorem lessM_tot {a b : Mg} (h : a ≠ b) : lessM a b = true ∨ lessM b a = true := by
  unfold lessM
  simp only [Bool.or_eq_true, Bool.and_eq_true, decide_eq_true_eq]
  by_cases e : a.1 = b.1
  · have : a.2 ≠ b.2 := fun e2 => h (Prod.ext e e2)
    rcases bless_tot this with h | h
    · exact .inl (.inr ⟨e, h⟩)
    · exact .inr (.inr ⟨e.symm, h⟩)
  · rcases bless_tot e with h | h
    · exact .inl (.inl h)
    · exact .inr (.inl h)
/-- The best pair and how often it stands there. -/
def BestIs (ws : List (List BA)) (cs : List Int) (m : Mg) (n : Int) : Prop :=
  (n = 0 ∧ ∀ p, tot ws cs p = 0) ∨ (0 < n ∧ tot ws cs m = n ∧ ∀ p, tot ws cs p < n ∨ (tot ws cs p = n ∧ (p = m ∨ lessM m p = true)))
/-- The best of those that were seen. -/
structure Seen (ws : List (List BA)) (cs : List Int) (seen : List Mg) (m : Mg) (n : Int) : Prop where
  pos : ∀ p ∈ seen, 0 < tot ws cs p
  best : (seen = [] ∧ n = 0) ∨ (0 < n ∧ tot ws cs m = n ∧ ∀ p ∈ seen, tot ws cs p < n ∨ (tot ws cs p = n ∧ (p = m ∨ lessM m p = true)))
theorem Seen.nil {ws : List (List BA)} {cs : List Int} {m : Mg} : Seen ws cs [] m 0 := ⟨fun p hp => (nomatch hp), .inl ⟨rfl, rfl⟩⟩
theorem Seen.step {ws : List (List BA)} {cs : List Int} {seen : List Mg} {m p : Mg} {n : Int} (h : Seen ws cs seen m n) (hp : 0 < tot ws cs p) (hn : p ∉ seen) :
    ((n < tot ws cs p ∨ (tot ws cs p = n ∧ lessM p m = true)) → Seen ws cs (seen ++ [p]) p (tot ws cs p)) ∧ (¬ (n < tot ws cs p ∨ (tot ws cs p = n ∧ lessM p m = true)) → Seen ws cs (seen ++ [p]) m n) := by
  have hpos : ∀ q ∈ seen ++ [p], 0 < tot ws cs q := by
    intro q hq
    rcases List.mem_append.1 hq with hq | hq
    · exact h.pos q hq
    · rw [List.mem_singleton] at hq; subst hq; exact hp
  refine ⟨fun hw => ⟨hpos, .inr ⟨hp, rfl, fun q hq => ?_⟩⟩, fun hw => ⟨hpos, ?_⟩⟩
  · rcases List.mem_append.1 hq with hq | hq
    · rcases h.best with ⟨e, _⟩ | ⟨h1, h2, h3⟩
      · rw [e] at hq; cases hq
      · rcases hw with hw | ⟨e, hw⟩
        · rcases h3 q hq with h4 | ⟨h4, _⟩
          · exact .inl (by omega)
          · exact .inl (by omega)
        · rcases h3 q hq with h4 | ⟨h4, h5⟩
          · exact .inl (by omega)
          · refine .inr ⟨by omega, .inr ?_⟩
            rcases h5 with rfl | h5
            · exact hw
            · exact lessM_trans hw h5
    · rw [List.mem_singleton] at hq; exact .inr ⟨by rw [hq], .inl hq⟩
  · rcases h.best with ⟨e, e2⟩ | ⟨h1, h2, h3⟩
    · exact absurd (.inl (by omega)) hw
    · refine .inr ⟨h1, h2, fun q hq => ?_⟩
      rcases List.mem_append.1 hq with hq | hq
      · exact h3 q hq
      · rw [List.mem_singleton] at hq
        subst hq
        by_cases e : tot ws cs q = n
        · refine .inr ⟨e, ?_⟩
          by_cases em : q = m
          · exact .inl em
          · rcases lessM_tot em with hl | hl
            · exact absurd (.inr ⟨e, hl⟩) hw
            · exact .inr hl
        · have : ¬ n < tot ws cs q := fun h => hw (.inl h)
          exact .inl (by omega)
theorem Seen.all {ws : List (List BA)} {cs : List Int} {seen : List Mg} {m : Mg} {n : Int} (h : Seen ws cs seen m n) (ha : ∀ l ∈ ws, ∀ p, adjT p l → p ∈ seen) : BestIs ws cs m n := by
  have hz : ∀ p, tot ws cs p ≠ 0 → p ∈ seen := fun p hp => by
    obtain ⟨l, hl, h2⟩ := tot_adj hp
    exact ha l hl p h2
  rcases h.best with ⟨e, e2⟩ | ⟨h1, h2, h3⟩
  · refine .inl ⟨e2, fun p => ?_⟩
    by_cases e3 : tot ws cs p = 0
    · exact e3
    · have := hz p e3; rw [e] at this; cases this
  · refine .inr ⟨h1, h2, fun p => ?_⟩
    by_cases e3 : tot ws cs p = 0
    · exact .inl (by omega)
    · exact h3 p (hz p e3)
/-! What is learnt. -/
def wsOf (ds : List Wd) (ms : List Mg) : List (List BA) := ds.map fun d => splitT ms d.1
def csOf (ds : List Wd) : List Int := ds.map (·.2)
structure LearnIs (ds : List Wd) (budget least : Int) (ms : List Mg) : Prop where
  each : ∀ (k : Nat) (m : Mg), ms[k]? = some m → (k : Int) < budget ∧ ∃ n, least ≤ n ∧ BestIs (wsOf ds (ms.take k)) (csOf ds) m n
  stop : budget ≤ ms.length ∨ ∃ m n, n < least ∧ BestIs (wsOf ds ms) (csOf ds) m n
theorem LearnIs.lrn {ds : List Wd} {budget least : Int} {ms : List Mg} (h : LearnIs ds budget least ms) (hl : 1 ≤ least) : Lrn (ds.map (·.1)) ms := by
  intro k m hm
  obtain ⟨_, n, hn, hb⟩ := h.each k m hm
  rcases hb with ⟨e, _⟩ | ⟨h1, h2, _⟩
  · omega
  · obtain ⟨l, hl2, ha⟩ := tot_adj (p := m) (ws := wsOf ds (ms.take k)) (cs := csOf ds) (by omega)
    obtain ⟨d, hd, rfl⟩ := List.mem_map.1 hl2
    exact ⟨d.1, List.mem_map.2 ⟨d, hd, rfl⟩, ha⟩
def posT (ws : List (List BA)) : Nat := (ws.map List.length).sum
end Go.Proofs.Ytchjcjocihckpaa.G
