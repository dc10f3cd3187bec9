/- Plain: merges, tables of symbols, vocabularies, tables of words, words as symbols. -/
import Derived.Test.YtchjcjocihckpaaGaC
/- Plain: what the functions of the lower layers answer, said of lists. -/
namespace Go.Proofs.Ytchjcjocihckpaa.G
open Go Go.RowKit
abbrev BA := ByteArray
/-- A merge: its sides. -/
abbrev Mg := BA × BA
abbrev Mg.tx (m : Mg) : BA := m.1 ++ m.2
def mgE (m : Mg) : List Value := [.string m.1, .string m.2]
def strE (s : BA) : List Value := [.string s]
def intE (z : Int) : List Value := [.int .i64 z]
theorem mgE_len (m : Mg) : (mgE m).length = 2 := rfl
theorem strE_len (m : BA) : (strE m).length = 1 := rfl
theorem intE_len (m : Int) : (intE m).length = 1 := rfl
theorem tk {α : Type} {xs : List α} {i : Nat} {x : α} (h : xs[i]? = some x) : xs.take (i + 1) = xs.take i ++ [x] := by
  rw [List.take_add_one, h]; rfl
theorem gl {α : Type} {xs : List α} {i : Nat} {x : α} (h : xs[i]? = some x) : i < xs.length := (List.getElem?_eq_some_iff.1 h).1
theorem gm {α : Type} {xs : List α} {i : Nat} {x : α} (h : xs[i]? = some x) : x ∈ xs := List.mem_of_getElem? h
section
variable {w : World} {s : Sl} {i : Nat}
theorem Rows.mg {ms : List Mg} (h : Rows w 2 mgE s ms) (hi : i < s.n) : ∃ b o m, s.b = some ⟨b, o, none⟩ ∧ ms[i]? = some m ∧ w.cell? ⟨b, o + i * 2, none⟩ = some (.string m.1) ∧ w.cell? ⟨b, o + i * 2 + 1, none⟩ = some (.string m.2) := by
  obtain ⟨b, o, e, hl, hc⟩ := h.get hi
  exact ⟨b, o, ms[i], e, List.getElem?_eq_getElem hl, (show Cells w b (o + i * 2) [_, _] from hc).1, (show Cells w b (o + i * 2) [_, _] from hc).2.1⟩
theorem Rows.str {ms : List BA} (h : Rows w 1 strE s ms) (hi : i < s.n) : ∃ b o m, s.b = some ⟨b, o, none⟩ ∧ ms[i]? = some m ∧ w.cell? ⟨b, o + i * 1, none⟩ = some (.string m) := by
  obtain ⟨b, o, e, hl, hc⟩ := h.get hi
  exact ⟨b, o, ms[i], e, List.getElem?_eq_getElem hl, (show Cells w b (o + i * 1) [_] from hc).1⟩
theorem Rows.int {ms : List Int} (h : Rows w 1 intE s ms) (hi : i < s.n) : ∃ b o m, s.b = some ⟨b, o, none⟩ ∧ ms[i]? = some m ∧ w.cell? ⟨b, o + i * 1, none⟩ = some (.int .i64 m) := by
  obtain ⟨b, o, e, hl, hc⟩ := h.get hi
  exact ⟨b, o, ms[i], e, List.getElem?_eq_getElem hl, (show Cells w b (o + i * 1) [_] from hc).1⟩
end
/-- How long the sides may be, that their sum is a number of the machine. -/
def Sm (ms : List Mg) : Prop := ∀ m ∈ ms, m.1.size ≤ 1099511627776 ∧ m.2.size ≤ 1099511627776
theorem Sm.take {ms : List Mg} (h : Sm ms) (n : Nat) : Sm (ms.take n) := fun m hm => h m (List.mem_of_mem_take hm)
/-- Is a side of one byte, or made by one of some merges? -/
def side (s : BA) (ms : List Mg) : Bool := decide (s.size = 1) || ms.any fun m => decide (m.tx = s)
/-- What is the matter with a merge behind some others; 0: nothing. -/
def bad (ms : List Mg) (m : Mg) : Nat :=
  if !side m.1 ms || !side m.2 ms then 7 else if 65536 < m.1.size + m.2.size then 4 else if ms.any fun k => decide (k.tx = m.tx) then 8 else 0
/-- The first merge with which something is the matter, and what. -/
def checkFrom : List Mg → List Mg → Int × Nat
  | _, [] => (-1, 0)
  | pre, m :: ms => if bad pre m ≠ 0 then (pre.length, bad pre m) else checkFrom (pre ++ [m]) ms
def check (ms : List Mg) : Int × Nat := checkFrom [] ms
theorem check_at {ms : List Mg} {i : Nat} {m : Mg} (hm : ms[i]? = some m) (h : check ms = checkFrom (ms.take i) (ms.drop i)) :
    (bad (ms.take i) m ≠ 0 → check ms = ((i : Int), bad (ms.take i) m)) ∧ (bad (ms.take i) m = 0 → check ms = checkFrom (ms.take (i + 1)) (ms.drop (i + 1))) := by
  have hd : ms.drop i = m :: ms.drop (i + 1) := by
    have := gl hm; rw [List.drop_eq_getElem_cons this]; congr 1
    rw [List.getElem?_eq_getElem this] at hm; exact Option.some.inj hm
  rw [h, hd, checkFrom, ← tk hm, List.length_take, Nat.min_eq_left (Nat.le_of_lt (gl hm))]
  exact ⟨fun h => if_pos h, fun h => if_neg (by simp [h])⟩
theorem check_end {ms : List Mg} {i : Nat} (hi : ms.length ≤ i) (h : check ms = checkFrom (ms.take i) (ms.drop i)) : check ms = (-1, 0) := by
  rw [h, List.drop_eq_nil_of_le hi]; rfl
/-- Good merges: nothing is the matter. -/
def good (ms : List Mg) : Prop := ∀ i m, ms[i]? = some m → bad (ms.take i) m = 0
/-- Are there more merges than are looked at, or longer sides? -/
def great (ms : List Mg) (most : Int) : Bool := (ms.any fun m => decide (300 < m.1.size) || decide (300 < m.2.size)) || decide (most < ms.length)
theorem ble_ne : ∀ (k : Nat) {la lb : List UInt8} {x y : UInt8}, la.take k = lb.take k → la[k]? = some x → lb[k]? = some y → x ≠ y → Op.bytesLess la lb = decide (x < y)
  | 0, a :: la, b :: lb, x, y, _, hx, hy, hne => by
    simp at hx hy; subst hx hy
    have : (a == b) = false := by simpa using hne
    simp [Op.bytesLess, this]
  | k + 1, a :: la, b :: lb, x, y, ht, hx, hy, hne => by
    simp only [List.take_succ_cons, List.cons.injEq] at ht
    obtain ⟨rfl, ht⟩ := ht
    have := ble_ne k ht (by simpa using hx) (by simpa using hy) hne
    simp [Op.bytesLess, this, UInt8.lt_irrefl]
  | 0, [], _, _, _, _, hx, _, _ => by simp at hx
  | 0, _ :: _, [], _, _, _, _, hy, _ => by simp at hy
  | _ + 1, [], _, _, _, _, hx, _, _ => by simp at hx
  | _ + 1, _ :: _, [], _, _, _, _, hy, _ => by simp at hy
theorem ble_end : ∀ (k : Nat) {la lb : List UInt8}, la.take k = lb.take k → k = la.length ∨ k = lb.length → k ≤ la.length → k ≤ lb.length → Op.bytesLess la lb = decide (la.length < lb.length)
  | 0, [], [], _, _, _, _ => rfl
  | 0, [], _ :: _, _, _, _, _ => by simp [Op.bytesLess]
  | 0, _ :: _, [], _, _, _, _ => by simp [Op.bytesLess]
  | 0, _ :: _, _ :: _, _, h, _, _ => by simp at h
  | k + 1, a :: la, b :: lb, ht, h, h1, h2 => by
    simp only [List.take_succ_cons, List.cons.injEq] at ht
    obtain ⟨rfl, ht⟩ := ht
    have := ble_end k ht (by simpa using h) (by simpa using h1) (by simpa using h2)
    simp [Op.bytesLess, this, UInt8.lt_irrefl]
  | _ + 1, [], _, _, _, h1, _ => by simp at h1
  | _ + 1, _ :: _, [], _, _, _, h2 => by simp at h2
theorem ba_at {a : BA} {k : Nat} (h : k < a.size) : a.data.toList[k]? = some (a.data.toList.getD k 0) := by
  have : k < a.data.toList.length := h
  rw [List.getD_eq_getElem?_getD, List.getElem?_eq_getElem this]; rfl
theorem ba_len (a : BA) : a.data.toList.length = a.size := rfl
theorem size_ne {u : BA} : u ≠ (⟨#[]⟩ : ByteArray) ↔ u.size ≠ 0 := by
  constructor
  · intro h e; apply h; rcases u with ⟨⟨l⟩⟩
    match l, e with
    | [], _ => rfl
  · intro h e; subst e; exact h rfl
end Go.Proofs.Ytchjcjocihckpaa.G

/- Plain: the table of symbols, and what it makes of merges. -/
namespace Go.Proofs.Ytchjcjocihckpaa.G
open Go Go.RowKit
/-- A symbol that was joined: its sides' numbers and its text. -/
abbrev Jd := Int × Int × BA
abbrev Jd.tx (j : Jd) : BA := j.2.2
def jdE (j : Jd) : List Value := [.int .i64 j.1, .int .i64 j.2.1, .string j.2.2]
theorem jdE_len (j : Jd) : (jdE j).length = 3 := rfl
def one (c : UInt8) : BA := ⟨#[c]⟩
/-- The place of a text among those joined. -/
def at? (x : BA) (js : List Jd) : Option Nat := js.findIdx? fun j => decide (j.tx = x)
/-- The number of a text that was joined. -/
def idx (x : BA) (js : List Jd) : Option Int := (at? x js).map fun i => ((256 + i : Nat) : Int)
/-- The text of a number. -/
def txOf (js : List Jd) (a : Int) : Option BA :=
  if a < 0 then none else if a < 256 then some (one (UInt8.ofNat a.toNat)) else (js[a.toNat - 256]?).map Jd.tx
/-- The number of a text. -/
def fnd (js : List Jd) (s : BA) : Option Int := if s.size = 1 then some ((s.data.toList.getD 0 0).toNat : Int) else idx s js
/-- The sum of two symbols: the table behind it, its number, and what is the matter. -/
def joinS (js : List Jd) (a b : Int) : List Jd × Int × Nat :=
  match txOf js a, txOf js b with
  | some s, some t => if 65536 < s.size + t.size then (js, 0, 4) else if (fnd js (s ++ t)).isSome then (js, 0, 8) else (js ++ [(a, b, s ++ t)], (256 + js.length : Nat), 0)
  | _, _ => (js, 0, 1)
def fileJoin (js : List Jd) (m : Mg) : List Jd × Nat :=
  match fnd js m.1, fnd js m.2 with
  | some a, some b => ((joinS js a b).1, (joinS js a b).2.2)
  | _, _ => (js, 7)
/-- A table that was made by some merges. -/
structure Made (pre : List Mg) (js : List Jd) : Prop where
  tx : js.map Jd.tx = pre.map Mg.tx
  two : ∀ j ∈ js, 2 ≤ j.tx.size
theorem Made.nil : Made [] [] := ⟨rfl, by simp⟩
theorem one_of_size {s : BA} (h : s.size = 1) : s = one (s.data.toList.getD 0 0) := by
  rcases s with ⟨⟨l⟩⟩
  match l, h with
  | [c], _ => rfl
theorem one_size (c : UInt8) : (one c).size = 1 := rfl
theorem toNat_lt (c : UInt8) : ((c.toNat : Nat) : Int) < 256 := by have := c.toNat_lt; omega
theorem fnd_txOf {js : List Jd} {s : BA} {a : Int} (h : fnd js s = some a) : txOf js a = some s := by
  unfold fnd at h
  split at h
  · rename_i h1
    cases h
    have := toNat_lt (s.data.toList.getD 0 0)
    rw [txOf, if_neg (by omega), if_pos this, Int.toNat_natCast, UInt8.ofNat_toNat, ← one_of_size h1]
  · unfold idx at h
    rw [Option.map_eq_some_iff] at h
    obtain ⟨i, h2, rfl⟩ := h
    unfold at? at h2
    rw [List.findIdx?_eq_some_iff_getElem] at h2
    obtain ⟨hi, h3, _⟩ := h2
    have h3 := of_decide_eq_true h3
    rw [txOf, if_neg (by omega), if_neg (by omega), show ((256 + i : Nat) : Int).toNat - 256 = i by omega, List.getElem?_eq_getElem hi]
    simpa using h3
theorem any_tx {pre : List Mg} {js : List Jd} (h : Made pre js) (x : BA) : (js.any fun j => decide (j.tx = x)) = pre.any fun m => decide (m.tx = x) := by
  have e1 : ∀ l : List Jd, (l.any fun j => decide (j.tx = x)) = (l.map Jd.tx).any fun y => decide (y = x) := fun l => by rw [List.any_map]; rfl
  have e2 : ∀ l : List Mg, (l.any fun j => decide (j.tx = x)) = (l.map Mg.tx).any fun y => decide (y = x) := fun l => by rw [List.any_map]; rfl
  rw [e1, e2, h.tx]
theorem idx_some (x : BA) (js : List Jd) : (idx x js).isSome = js.any fun j => decide (j.tx = x) := by
  unfold idx at?
  rw [Option.isSome_map, List.findIdx?_isSome]
theorem fnd_some {pre : List Mg} {js : List Jd} (h : Made pre js) (s : BA) : (fnd js s).isSome = side s pre := by
  unfold fnd side
  split
  · rename_i h1; simp [h1]
  · rename_i h1; rw [idx_some, any_tx h]; simp [h1]
theorem ba_append_size (a b : BA) : (a ++ b).size = a.size + b.size := ByteArray.size_append
theorem side_pos {pre : List Mg} {js : List Jd} (h : Made pre js) {s : BA} (hs : side s pre = true) : 1 ≤ s.size := by
  unfold side at hs
  rw [Bool.or_eq_true, decide_eq_true_eq, ← any_tx h, List.any_eq_true] at hs
  rcases hs with hs | ⟨j, hj, he⟩
  · omega
  · have := h.two j hj; rw [of_decide_eq_true he] at this; omega
/-- What the table makes of a merge is what the document says. -/
theorem made_join {pre : List Mg} {js : List Jd} (h : Made pre js) (m : Mg) :
    (fileJoin js m).2 = bad pre m ∧ ((fileJoin js m).2 = 0 → ∃ a b, fnd js m.1 = some a ∧ fnd js m.2 = some b ∧ (fileJoin js m).1 = js ++ [(a, b, m.tx)] ∧ Made (pre ++ [m]) (js ++ [(a, b, m.tx)])) ∧ ((fileJoin js m).2 ≠ 0 → (fileJoin js m).1 = js) := by
  unfold fileJoin bad
  have s1 := fnd_some h m.1
  have s2 := fnd_some h m.2
  cases e1 : fnd js m.1 with
  | none => rw [e1] at s1; rw [← s1]; simp
  | some a =>
    cases e2 : fnd js m.2 with
    | none => rw [e2] at s2; rw [← s2]; simp
    | some b =>
      rw [e1] at s1; rw [e2] at s2
      rw [← s1, ← s2]
      have p1 := side_pos h s1.symm
      have p2 := side_pos h s2.symm
      simp only [joinS, fnd_txOf e1, fnd_txOf e2]
      have s3 : (fnd js (m.1 ++ m.2)).isSome = pre.any fun k => decide (k.tx = m.tx) := by
        rw [fnd_some h, side]
        have : decide ((m.1 ++ m.2).size = 1) = false := decide_eq_false (by rw [ba_append_size]; omega)
        rw [this, Bool.false_or]
      by_cases h4 : 65536 < m.1.size + m.2.size
      · simp [h4]
      · simp only [h4, if_false, s3]
        cases h8 : pre.any fun k => decide (k.tx = m.tx) with
        | true => simp
        | false =>
          refine ⟨by simp, fun _ => ⟨a, b, rfl, rfl, rfl, ?_, ?_⟩, by simp⟩
          · simp [h.tx]
          · intro j hj
            rcases List.mem_append.1 hj with hj | hj
            · exact h.two j hj
            · simp only [List.mem_singleton] at hj; subst hj
              show 2 ≤ (m.1 ++ m.2).size
              rw [ba_append_size]; omega
end Go.Proofs.Ytchjcjocihckpaa.G

/- Plain: a vocabulary: depths, uses, the longest texts. -/
namespace Go.Proofs.Ytchjcjocihckpaa.G
open Go Go.RowKit
def stepD (f : BA → Option Int) (m : Mg) : BA → Option Int := fun s => if m.tx = s then some (1 + max ((f m.1).getD 0) ((f m.2).getD 0)) else f s
/-- How deep a text lies; none: it is no text of the vocabulary. -/
def depM (ms : List Mg) : BA → Option Int := ms.foldl stepD fun s => if s.size = 1 then some 0 else none
theorem depM_nil (s : BA) : depM [] s = if s.size = 1 then some 0 else none := rfl
theorem depM_snoc (ms : List Mg) (m : Mg) : depM (ms ++ [m]) = stepD (depM ms) m := by simp [depM, List.foldl_append]
def stepU (f : BA → Int) (m : Mg) : BA → Int := fun s => f s + (if m.1 = s then 1 else 0) + (if m.2 = s then 1 else 0)
def usesM (ms : List Mg) : BA → Int := ms.foldl stepU fun _ => 0
theorem usesM_snoc (ms : List Mg) (m : Mg) : usesM (ms ++ [m]) = stepU (usesM ms) m := by simp [usesM, List.foldl_append]
def mostM (ms : List Mg) : Int := ms.foldl (fun n m => max n (m.tx.size : Int)) 1
theorem mostM_snoc (ms : List Mg) (m : Mg) : mostM (ms ++ [m]) = max (mostM ms) (m.tx.size : Int) := by simp [mostM, List.foldl_append]
theorem snoc_ind {α : Type} {p : List α → Prop} (h0 : p []) (h1 : ∀ l x, p l → p (l ++ [x])) (l : List α) : p l := by
  have : ∀ n (l : List α), l.length = n → p l := by
    intro n
    induction n with
    | zero => intro l hl; rw [List.length_eq_zero_iff.1 hl]; exact h0
    | succ n ih =>
      intro l hl
      have hne : l ≠ [] := by intro e; rw [e] at hl; cases hl
      rw [← List.dropLast_concat_getLast hne]
      exact h1 _ _ (ih _ (by simp [hl]))
  exact this _ l rfl
theorem depM_le (ms : List Mg) : ∀ s v, depM ms s = some v → 0 ≤ v ∧ v ≤ ms.length := by
  refine snoc_ind (p := fun ms => ∀ s v, depM ms s = some v → 0 ≤ v ∧ v ≤ ms.length) ?_ ?_ ms
  · intro s v h; rw [depM_nil] at h; split at h
    · cases h; simp
    · cases h
  · intro l m ih s v h
    rw [depM_snoc] at h; unfold stepD at h
    have g : ∀ t, 0 ≤ (depM l t).getD 0 ∧ (depM l t).getD 0 ≤ l.length := fun t => by
      cases e : depM l t with
      | none => simp
      | some v => exact ih t v e
    have := g m.1
    have := g m.2
    simp only [List.length_append, List.length_singleton]
    split at h
    · cases h; omega
    · have := ih s v h; omega
theorem depM_some (ms : List Mg) : ∀ s, (depM ms s).isSome = side s ms := by
  refine snoc_ind (p := fun ms => ∀ s, (depM ms s).isSome = side s ms) ?_ ?_ ms
  · intro s; rw [depM_nil]; unfold side; by_cases h : s.size = 1 <;> simp [h]
  · intro l m ih s
    rw [depM_snoc]; unfold stepD
    have : side s (l ++ [m]) = (side s l || decide (m.tx = s)) := by unfold side; simp [Bool.or_assoc]
    rw [this, ← ih]
    by_cases h : m.tx = s <;> simp [h]
theorem usesM_le (ms : List Mg) : ∀ s, 0 ≤ usesM ms s ∧ usesM ms s ≤ 2 * ms.length := by
  refine snoc_ind (p := fun ms => ∀ s, 0 ≤ usesM ms s ∧ usesM ms s ≤ 2 * ms.length) ?_ ?_ ms
  · intro s; simp [usesM]
  · intro l m ih s
    rw [usesM_snoc]; unfold stepU
    have := ih s
    simp only [List.length_append, List.length_singleton]
    by_cases h1 : m.1 = s <;> by_cases h2 : m.2 = s <;> simp only [h1, h2, if_true, if_false] <;> omega
theorem mostM_ge (ms : List Mg) : 1 ≤ mostM ms ∧ (∀ m ∈ ms, (m.tx.size : Int) ≤ mostM ms) ∧ (∀ B : Int, 1 ≤ B → (∀ m ∈ ms, (m.tx.size : Int) ≤ B) → mostM ms ≤ B) := by
  refine snoc_ind (p := fun ms => 1 ≤ mostM ms ∧ (∀ m ∈ ms, (m.tx.size : Int) ≤ mostM ms) ∧ (∀ B : Int, 1 ≤ B → (∀ m ∈ ms, (m.tx.size : Int) ≤ B) → mostM ms ≤ B)) ?_ ?_ ms
  · simp [mostM]
  · intro l m ⟨h1, h2, h3⟩
    rw [mostM_snoc]
    refine ⟨by omega, fun k hk => ?_, fun B hB h => ?_⟩
    · rcases List.mem_append.1 hk with hk | hk
      · have := h2 k hk; omega
      · simp only [List.mem_singleton] at hk; subst hk; omega
    · have := h3 B hB fun k hk => h k (List.mem_append_left _ hk)
      have := h m (by simp)
      omega
theorem good_of_check {ms : List Mg} (h : (check ms).2 = 0) : good ms := by
  have key : ∀ (n : Nat) (pre : List Mg), pre ++ ms.drop n = ms → pre.length = n → (checkFrom pre (ms.drop n)).2 = 0 → ∀ i m, n ≤ i → ms[i]? = some m → bad (ms.take i) m = 0 := by
    intro n
    have : ∀ d n, d = ms.length - n → ∀ pre : List Mg, pre ++ ms.drop n = ms → pre.length = n → (checkFrom pre (ms.drop n)).2 = 0 → ∀ i m, n ≤ i → ms[i]? = some m → bad (ms.take i) m = 0 := by
      intro d
      induction d with
      | zero => intro n hd pre _ _ _ i m hi hm; have := gl hm; omega
      | succ d ih =>
        intro n hd pre hp hn hc i m hi hm
        have hlt : n < ms.length := by omega
        have ht : ms.take n = pre := by rw [← hp, List.take_left' hn]
        rw [List.drop_eq_getElem_cons hlt, checkFrom] at hc
        split at hc
        · rename_i h; exact absurd hc h
        · rename_i h
          rcases Nat.eq_or_lt_of_le hi with e | e
          · subst e
            rw [List.getElem?_eq_getElem hlt] at hm; cases hm
            rw [ht]; omega
          · refine ih (n + 1) (by omega) (pre ++ [ms[n]]) ?_ (by simp [hn]) hc i m e hm
            rw [List.append_assoc, List.singleton_append, ← List.drop_eq_getElem_cons hlt]; exact hp
    exact this _ n rfl
  intro i m hm
  exact key 0 [] rfl rfl (by rw [List.drop_zero]; exact h) i m (Nat.zero_le _) hm
theorem good.take {ms : List Mg} (h : good ms) (n : Nat) : good (ms.take n) := by
  intro i m hm
  rw [List.getElem?_take] at hm
  split at hm
  · rename_i hi
    rw [List.take_take, Nat.min_eq_left (by omega)]
    exact h i m hm
  · cases hm
theorem good.sd {ms : List Mg} (h : good ms) {i : Nat} {m : Mg} (hm : ms[i]? = some m) : side m.1 (ms.take i) = true ∧ side m.2 (ms.take i) = true ∧ m.1.size + m.2.size ≤ 65536 ∧ ∀ k ∈ ms.take i, k.tx ≠ m.tx := by
  have := h i m hm
  unfold bad at this
  split at this
  · cases this
  · rename_i h7
    split at this
    · cases this
    · split at this
      · cases this
      · rename_i h4 h8
        simp only [Bool.or_eq_true, Bool.not_eq_true', not_or, Bool.not_eq_false] at h7
        refine ⟨h7.1, h7.2, by omega, fun k hk e => h8 (List.any_eq_true.2 ⟨k, hk, decide_eq_true e⟩)⟩
theorem good.pos {ms : List Mg} (h : good ms) : ∀ (i : Nat) (m : Mg), ms[i]? = some m → 1 ≤ m.1.size ∧ 1 ≤ m.2.size := by
  intro i
  induction i using Nat.strongRecOn with
  | ind i ih =>
    intro m hm
    obtain ⟨a, b, _⟩ := h.sd hm
    have key : ∀ s : BA, side s (ms.take i) = true → 1 ≤ s.size := by
      intro s hs
      unfold side at hs
      rw [Bool.or_eq_true, decide_eq_true_eq, List.any_eq_true] at hs
      rcases hs with hs | ⟨k, hk, he⟩
      · omega
      · obtain ⟨j, hj⟩ := List.mem_iff_getElem?.1 hk
        have hji : j < i := by have := gl hj; simp at this; omega
        rw [List.getElem?_take_of_lt hji] at hj
        have := ih j hji k hj
        rw [← of_decide_eq_true he, ba_append_size]; omega
    exact ⟨key _ a, key _ b⟩
theorem depM_at {ms : List Mg} (h : good ms) {i : Nat} {m : Mg} (hm : ms[i]? = some m) : depM ms m.tx = some (1 + max ((depM (ms.take i) m.1).getD (-1)) ((depM (ms.take i) m.2).getD (-1))) := by
  have hi := gl hm
  have key : ∀ n, i < n → depM (ms.take n) m.tx = depM (ms.take (i + 1)) m.tx := by
    intro n
    induction n with
    | zero => intro h; omega
    | succ n ih =>
      intro hn
      rcases Nat.eq_or_lt_of_le (Nat.le_of_lt_succ hn) with e | e
      · subst e; rfl
      · rw [← ih e]
        cases hk : ms[n]? with
        | none => rw [List.take_of_length_le (Nat.le_of_lt (by have := List.getElem?_eq_none_iff.1 hk; omega)), List.take_of_length_le (List.getElem?_eq_none_iff.1 hk)]
        | some k =>
          rw [tk hk, depM_snoc]; unfold stepD
          rw [if_neg]
          intro e2
          obtain ⟨_, _, _, h4⟩ := h.sd hk
          exact h4 m (List.mem_of_getElem? (i := i) (by rw [List.getElem?_take_of_lt e]; exact hm)) e2.symm
  have := key ms.length hi
  rw [List.take_length] at this
  rw [this, tk hm, depM_snoc]; unfold stepD
  rw [if_pos rfl]
  obtain ⟨a, b, _⟩ := h.sd hm
  rw [← depM_some] at a b
  obtain ⟨x, hx⟩ := Option.isSome_iff_exists.1 a
  obtain ⟨y, hy⟩ := Option.isSome_iff_exists.1 b
  rw [hx, hy]; rfl
/-! The longest texts. -/
def cutn (p : Nat → Bool) : Nat → Nat
  | 0 => 0
  | n + 1 => if n = 0 then 1 else if p (n + 1) then n + 1 else cutn p n
theorem cutn_pos (p : Nat → Bool) : ∀ n, 1 ≤ n → 1 ≤ cutn p n ∧ cutn p n ≤ n
  | n + 1, _ => by
    unfold cutn
    by_cases h : n = 0
    · rw [if_pos h]; omega
    · rw [if_neg h]
      by_cases h2 : p (n + 1)
      · rw [if_pos h2]; omega
      · rw [if_neg h2]; have := cutn_pos p n (by omega); omega
theorem cutn_step {p : Nat → Bool} {n : Nat} (h : 1 < n) (hp : p n = false) : cutn p n = cutn p (n - 1) := by
  obtain ⟨k, rfl⟩ : ∃ k, n = k + 1 := ⟨n - 1, by omega⟩
  rw [cutn, if_neg (by omega), if_neg (by rw [hp]; decide)]; rfl
theorem cutn_hit {p : Nat → Bool} {n : Nat} (hp : n ≤ 1 ∨ p n = true) : cutn p n = n := by
  match n, hp with
  | 0, _ => rfl
  | k + 1, hp =>
    unfold cutn
    by_cases h : k = 0
    · rw [if_pos h, h]
    · rw [if_neg h, if_pos (hp.resolve_left (by omega))]
theorem cutn_min {p : Nat → Bool} {M : Nat} (hM : 1 ≤ M) : ∀ n, (∀ i, M < i → i ≤ n → p i = false) → cutn p n = cutn p (min n M)
  | 0, _ => by simp
  | n + 1, h => by
    rcases Nat.lt_or_ge M (n + 1) with e | e
    · rw [cutn_step (by omega) (h (n + 1) e (Nat.le_refl _)), Nat.add_sub_cancel, cutn_min hM n fun i h1 h2 => h i h1 (by omega)]
      rw [Nat.min_eq_right (by omega), Nat.min_eq_right (by omega)]
    · rw [Nat.min_eq_left e]
def longF (p : BA → Bool) : Nat → BA → List BA
  | 0, _ => []
  | f + 1, s => if s.size = 0 then [] else
    let n := cutn (fun n => p (s.extract 0 n)) s.size
    s.extract 0 n :: longF p f (s.extract n s.size)
/-- A word in its longest texts. -/
def longest (p : BA → Bool) (s : BA) : List BA := longF p s.size s
theorem ext_size {s : BA} {l h : Nat} (hh : h ≤ s.size) : (s.extract l h).size = h - l := by
  rw [ByteArray.size_extract, Nat.min_eq_left hh]
theorem longF_fuel (p : BA → Bool) : ∀ f s, s.size ≤ f → longF p f s = longest p s := by
  have : ∀ n s f, s.size = n → n ≤ f → longF p f s = longF p n s := by
    intro n
    induction n using Nat.strongRecOn with
    | ind n ih =>
      intro s f hs hf
      match n, f, hf with
      | 0, 0, _ => rfl
      | 0, f + 1, _ => simp [longF, hs]
      | n + 1, f + 1, hf =>
        simp only [longF]
        rw [if_neg (by omega), if_neg (by omega)]
        have hc := cutn_pos (fun n => p (s.extract 0 n)) s.size (by omega)
        have hz : (s.extract (cutn (fun n => p (s.extract 0 n)) s.size) s.size).size ≤ n := by rw [ext_size (Nat.le_refl _)]; omega
        rw [ih _ (by omega) _ f rfl (by omega), ih _ (by omega) _ n rfl hz]
  intro f s h
  rw [this s.size s f rfl h]; rfl
theorem longest_nil (p : BA → Bool) {s : BA} (h : s.size = 0) : longest p s = [] := by
  unfold longest; rw [h]; rfl
theorem longest_cons (p : BA → Bool) {s : BA} (h : s.size ≠ 0) : longest p s = s.extract 0 (cutn (fun n => p (s.extract 0 n)) s.size) :: longest p (s.extract (cutn (fun n => p (s.extract 0 n)) s.size) s.size) := by
  obtain ⟨k, hk⟩ : ∃ k, s.size = k + 1 := ⟨s.size - 1, by omega⟩
  have hc := cutn_pos (fun n => p (s.extract 0 n)) s.size (by omega)
  conv => lhs; unfold longest; rw [hk]
  rw [longF, if_neg h]
  show _ :: longF p k _ = _
  rw [longF_fuel p k _ (by rw [ext_size (Nat.le_refl _)]; omega)]
theorem longest_len (p : BA → Bool) : ∀ s, (longest p s).length ≤ s.size := by
  have : ∀ n s, s.size = n → (longest p s).length ≤ n := by
    intro n
    induction n using Nat.strongRecOn with
    | ind n ih =>
      intro s hs
      by_cases h : s.size = 0
      · rw [longest_nil p h]; simp
      · rw [longest_cons p h]
        have hc := cutn_pos (fun n => p (s.extract 0 n)) s.size (by omega)
        have hz := ext_size (s := s) (l := cutn (fun n => p (s.extract 0 n)) s.size) (Nat.le_refl _)
        have := ih _ (by omega) _ hz
        simp only [List.length_cons]; omega
  exact fun s => this _ s rfl
end Go.Proofs.Ytchjcjocihckpaa.G

/- Plain: tables of words: sorted, each with its count. -/
namespace Go.Proofs.Ytchjcjocihckpaa.G
open Go Go.RowKit
/-- A word and its count. -/
abbrev Wd := BA × Int
def wdE (x : Wd) : List Value := [.string x.1, .int .i64 x.2]
theorem wdE_len (m : Wd) : (wdE m).length = 2 := rfl
theorem Rows.wd {w : World} {s : Sl} {i : Nat} {l : List Wd} (h : Rows w 2 wdE s l) (hi : i < s.n) : ∃ b o m, s.b = some ⟨b, o, none⟩ ∧ l[i]? = some m ∧ w.cell? ⟨b, o + i * 2, none⟩ = some (.string m.1) ∧ w.cell? ⟨b, o + i * 2 + 1, none⟩ = some (.int .i64 m.2) := by
  obtain ⟨b, o, e, hl, hc⟩ := h.get hi
  exact ⟨b, o, l[i], e, List.getElem?_eq_getElem hl, (show Cells w b (o + i * 2) [_, _] from hc).1, (show Cells w b (o + i * 2) [_, _] from hc).2.1⟩
/-! The order of texts. -/
theorem bl_irr : ∀ l : List UInt8, Op.bytesLess l l = false
  | [] => rfl
  | a :: l => by simp [Op.bytesLess, bl_irr l, UInt8.lt_irrefl]
theorem bl_trans : ∀ {a b c : List UInt8}, Op.bytesLess a b = true → Op.bytesLess b c = true → Op.bytesLess a c = true
  | _, [], _, h, _ => by cases ‹List UInt8› <;> simp [Op.bytesLess] at h
  | _, _ :: _, [], _, h => by simp [Op.bytesLess] at h
  | [], _ :: _, _ :: _, _, _ => rfl
  | x :: a, y :: b, z :: c, h1, h2 => by
    simp only [Op.bytesLess, Bool.or_eq_true, Bool.and_eq_true, decide_eq_true_eq, beq_iff_eq] at h1 h2 ⊢
    rcases h1 with h1 | ⟨rfl, h1⟩
    · rcases h2 with h2 | ⟨rfl, h2⟩
      · exact .inl (UInt8.lt_trans h1 h2)
      · exact .inl h1
    · rcases h2 with h2 | ⟨rfl, h2⟩
      · exact .inl h2
      · exact .inr ⟨rfl, bl_trans h1 h2⟩
theorem bl_tot : ∀ {a b : List UInt8}, a ≠ b → Op.bytesLess a b = true ∨ Op.bytesLess b a = true
  | [], [], h => absurd rfl h
  | [], _ :: _, _ => .inl rfl
  | _ :: _, [], _ => .inr rfl
  | x :: a, y :: b, h => by
    simp only [Op.bytesLess, Bool.or_eq_true, Bool.and_eq_true, decide_eq_true_eq, beq_iff_eq]
    by_cases e : x = y
    · subst e
      rcases bl_tot (a := a) (b := b) (fun e => h (by rw [e])) with h | h
      · exact .inl (.inr ⟨rfl, h⟩)
      · exact .inr (.inr ⟨rfl, h⟩)
    · rcases UInt8.lt_or_lt_of_ne e with h | h
      · exact .inl (.inl h)
      · exact .inr (.inl h)
theorem bless_irr (a : BA) : bless a a = false := bl_irr _
theorem bless_trans {a b c : BA} (h1 : bless a b = true) (h2 : bless b c = true) : bless a c = true := bl_trans h1 h2
theorem ba_ext {a b : BA} (h : a.data.toList = b.data.toList) : a = b := by
  rcases a with ⟨⟨l⟩⟩; rcases b with ⟨⟨m⟩⟩; simp only at h; rw [h]
theorem bless_tot {a b : BA} (h : a ≠ b) : bless a b = true ∨ bless b a = true := bl_tot fun e => h (ba_ext e)
theorem bless_asym {a b : BA} (h : bless a b = true) : bless b a = false := by
  cases e : bless b a with
  | false => rfl
  | true => have := bless_trans h e; rw [bless_irr] at this; cases this
theorem bless_ne {a b : BA} (h : bless a b = true) : a ≠ b := by rintro rfl; rw [bless_irr] at h; cases h
abbrev Srt (l : List BA) : Prop := l.Pairwise fun a b => bless a b = true
theorem srt_unique : ∀ {l m : List BA}, Srt l → Srt m → (∀ t, t ∈ l ↔ t ∈ m) → l = m
  | [], [], _, _, _ => rfl
  | [], b :: m, _, _, h => by have := (h b).2 (by simp); simp at this
  | a :: l, [], _, _, h => by have := (h a).1 (by simp); simp at this
  | a :: l, b :: m, h1, h2, h => by
    replace h1 := List.pairwise_cons.1 h1
    replace h2 := List.pairwise_cons.1 h2
    have e : a = b := by
      by_cases e : a = b
      · exact e
      · have ha : a ∈ m := (List.mem_cons.1 ((h a).1 (by simp))).resolve_left e
        have hb : b ∈ l := (List.mem_cons.1 ((h b).2 (by simp))).resolve_left fun e2 => e e2.symm
        have p := h2.1 a ha
        have q := h1.1 b hb
        rw [bless_asym p] at q; cases q
    subst e
    rw [srt_unique h1.2 h2.2 fun t => ?_]
    constructor
    · intro ht
      have := (h t).1 (List.mem_cons_of_mem _ ht)
      rcases List.mem_cons.1 this with e | e
      · subst e; have := h1.1 t ht; rw [bless_irr] at this; cases this
      · exact e
    · intro ht
      have := (h t).2 (List.mem_cons_of_mem _ ht)
      rcases List.mem_cons.1 this with e | e
      · subst e; have := h2.1 t ht; rw [bless_irr] at this; cases this
      · exact e
/-- How often a text stands in a list. -/
def cnt (ws : List BA) (t : BA) : Nat := (ws.filter fun x => decide (x = t)).length
theorem cnt_none {ws : List BA} {t : BA} (h : t ∉ ws) : cnt ws t = 0 := by
  unfold cnt
  rw [List.length_eq_zero_iff, List.filter_eq_nil_iff]
  intro x hx e
  exact h (of_decide_eq_true e ▸ hx)
theorem cnt_snoc (ws : List BA) (a t : BA) : cnt (ws ++ [a]) t = cnt ws t + if a = t then 1 else 0 := by
  unfold cnt
  rw [List.filter_append, List.length_append]
  by_cases h : a = t <;> simp [h]
theorem cnt_le (ws : List BA) (t : BA) : cnt ws t ≤ ws.length := List.length_filter_le _ _
theorem cnt_pos {ws : List BA} {t : BA} : 0 < cnt ws t ↔ t ∈ ws := by
  constructor
  · intro h
    refine Classical.byContradiction fun hn => ?_
    rw [cnt_none hn] at h; omega
  · intro h
    exact List.length_pos_of_mem (List.mem_filter.2 ⟨h, decide_eq_true rfl⟩)
/-- The table of some words. -/
structure Tb (ws : List BA) (l : List Wd) : Prop where
  srt : Srt (l.map (·.1))
  mem : ∀ t, t ∈ l.map (·.1) ↔ t ∈ ws
  ct : ∀ x ∈ l, x.2 = (cnt ws x.1 : Int)
theorem Tb.unique {ws : List BA} {l m : List Wd} (h1 : Tb ws l) (h2 : Tb ws m) : l = m := by
  have e := srt_unique h1.srt h2.srt fun t => (h1.mem t).trans (h2.mem t).symm
  have g : ∀ {l : List Wd}, Tb ws l → l = (l.map (·.1)).map fun t => (t, (cnt ws t : Int)) := fun {l} h => by
    rw [List.map_map]
    conv => lhs; rw [← List.map_id l]
    refine List.map_congr_left fun x hx => ?_
    show x = (x.1, (cnt ws x.1 : Int))
    rw [← h.ct x hx]
  rw [g h1, g h2, e]
theorem Tb.nil : Tb [] [] := ⟨by simp, by simp, by simp⟩
/-- The count of a word in a table. -/
def cntW (l : List Wd) (t : BA) : Int := match l.find? fun x => decide (x.1 = t) with | some x => x.2 | none => 0
theorem Tb.ctW {ws : List BA} {l : List Wd} (h : Tb ws l) (t : BA) : cntW l t = (cnt ws t : Int) := by
  unfold cntW
  cases e : l.find? fun x => decide (x.1 = t) with
  | some x =>
    have h1 := List.mem_of_find?_eq_some e
    have h2 : x.1 = t := by simpa using List.find?_some e
    show x.2 = _
    rw [h.ct x h1, h2]
  | none =>
    rw [List.find?_eq_none] at e
    have : t ∉ ws := by
      rw [← h.mem]; intro hm
      rw [List.mem_map] at hm
      obtain ⟨x, hx, rfl⟩ := hm
      exact e x hx (decide_eq_true rfl)
    rw [cnt_none this]; rfl
/-- A word set into a table. -/
def setW (t : BA) (c : Int) : List Wd → Bool → List Wd
  | [], d => if d then [] else [(t, c)]
  | x :: l, d =>
    let d' := d || !bless x.1 t
    (if d then [] else if bless x.1 t then [] else [(t, c)]) ++ ((if x.1 = t then [] else [x]) ++ setW t c l d')
theorem setW_true (t : BA) (c : Int) : ∀ l, setW t c l true = l.filter fun x => decide (x.1 ≠ t)
  | [] => rfl
  | x :: l => by
    simp only [setW, Bool.true_or, if_true, List.nil_append, setW_true t c l]
    by_cases h : x.1 = t <;> simp [h]
theorem setW_spec (t : BA) (c : Int) : ∀ l : List Wd, Srt (l.map (·.1)) → Srt ((setW t c l false).map (·.1)) ∧ (∀ x, x ∈ setW t c l false ↔ x = (t, c) ∨ (x ∈ l ∧ x.1 ≠ t))
  | [], _ => by simp [setW]
  | x :: l, h => by
    rw [List.map_cons] at h
    replace h := List.pairwise_cons.1 h
    obtain ⟨h1, h2⟩ := setW_spec t c l h.2
    simp only [setW, Bool.false_or, Bool.false_eq_true, if_false]
    by_cases hb : bless x.1 t = true
    · have hne := bless_ne hb
      rw [if_pos hb, if_neg hne, hb]
      simp only [Bool.not_true, List.nil_append, List.singleton_append, List.map_cons, List.pairwise_cons, List.mem_cons]
      refine ⟨⟨fun y hy => ?_, h1⟩, fun y => ?_⟩
      · rw [List.mem_map] at hy
        obtain ⟨z, hz, rfl⟩ := hy
        rcases (h2 z).1 hz with rfl | ⟨hz, _⟩
        · exact hb
        · exact h.1 _ (List.mem_map.2 ⟨z, hz, rfl⟩)
      · rw [h2]
        constructor
        · rintro (rfl | rfl | ⟨h3, h4⟩)
          · exact .inr ⟨.inl rfl, hne⟩
          · exact .inl rfl
          · exact .inr ⟨.inr h3, h4⟩
        · rintro (rfl | ⟨rfl | h3, h4⟩)
          · exact .inr (.inl rfl)
          · exact .inl rfl
          · exact .inr (.inr ⟨h3, h4⟩)
    · rw [if_neg hb]
      have hb' : bless x.1 t = false := by simpa using hb
      simp only [hb', Bool.not_false, setW_true]
      have e : (if x.1 = t then [] else [x]) ++ l.filter (fun x => decide (x.1 ≠ t)) = (x :: l).filter fun x => decide (x.1 ≠ t) := by
        by_cases hx : x.1 = t <;> simp [hx]
      rw [e]
      refine ⟨?_, fun y => ?_⟩
      · rw [List.singleton_append, List.map_cons]
        refine List.pairwise_cons.2 ⟨?_, ?_⟩
        · intro y hy
          rw [List.mem_map] at hy
          obtain ⟨z, hz, rfl⟩ := hy
          rw [List.mem_filter] at hz
          have hzt := of_decide_eq_true hz.2
          show bless t z.1 = true
          rcases List.mem_cons.1 hz.1 with rfl | hz1
          · exact (bless_tot hzt).resolve_left hb
          · have h3 := h.1 z.1 (List.mem_map.2 ⟨z, hz1, rfl⟩)
            by_cases hxt : x.1 = t
            · rw [← hxt]; exact h3
            · exact bless_trans ((bless_tot hxt).resolve_left hb) h3
        · have hp : ((x :: l).map (·.1)).Pairwise fun a b => bless a b = true := List.pairwise_cons.2 h
          exact hp.sublist (List.Sublist.map _ List.filter_sublist)
      · rw [List.singleton_append, List.mem_cons, List.mem_filter]
        simp
theorem Tb.set {ws : List BA} {l : List Wd} (h : Tb ws l) (t : BA) : Tb (ws ++ [t]) (setW t (cntW l t + 1) l false) := by
  obtain ⟨h1, h2⟩ := setW_spec t (cntW l t + 1) l h.srt
  refine ⟨h1, fun y => ?_, fun x hx => ?_⟩
  · rw [List.mem_append, List.mem_singleton, ← h.mem]
    constructor
    · intro hy
      rw [List.mem_map] at hy
      obtain ⟨z, hz, rfl⟩ := hy
      rcases (h2 z).1 hz with rfl | ⟨hz, _⟩
      · exact .inr rfl
      · exact .inl (List.mem_map.2 ⟨z, hz, rfl⟩)
    · rintro (hy | rfl)
      · by_cases e : y = t
        · exact List.mem_map.2 ⟨_, (h2 _).2 (.inl rfl), e.symm⟩
        · rw [List.mem_map] at hy
          obtain ⟨z, hz, rfl⟩ := hy
          exact List.mem_map.2 ⟨z, (h2 z).2 (.inr ⟨hz, e⟩), rfl⟩
      · exact List.mem_map.2 ⟨_, (h2 _).2 (.inl rfl), rfl⟩
  · rw [cnt_snoc]
    rcases (h2 x).1 hx with rfl | ⟨hx, hne⟩
    · rw [h.ctW, if_pos rfl]; simp
    · rw [h.ct x hx, if_neg (fun e => hne e.symm)]; simp
end Go.Proofs.Ytchjcjocihckpaa.G

/- Words as symbols: neighbours, how often they are there, joining them; chains of places. -/
namespace Go.Proofs.Ytchjcjocihckpaa.G
open Go Go.RowKit
abbrev Pr := Int × Int
/-- Does a pair begin with x, ahead of a list? -/
def at1 (x : Int) (l : List Int) (p : Pr) : Int := match l with
  | [] => 0
  | y :: _ => if (x, y) = p then 1 else 0
/-- How often a pair of neighbours is there. -/
def cntP : List Int → Pr → Int
  | [], _ => 0
  | x :: l, p => at1 x l p + cntP l p
/-- A pair, joined from the front on. -/
def joinI (p : Pr) (s : Int) : List Int → List Int
  | [] => []
  | [x] => [x]
  | x :: y :: l => if (x, y) = p then s :: joinI p s l else x :: joinI p s (y :: l)
/-- In how many places. -/
def manyI (p : Pr) : List Int → Nat
  | [] => 0
  | [_] => 0
  | x :: y :: l => if (x, y) = p then manyI p l + 1 else manyI p (y :: l)
theorem at1_bd (x : Int) (l : List Int) (p : Pr) : 0 ≤ at1 x l p ∧ at1 x l p ≤ 1 := by
  unfold at1; split
  · omega
  · split <;> omega
theorem cntP_bd (p : Pr) : ∀ l : List Int, 0 ≤ cntP l p ∧ cntP l p ≤ l.length
  | [] => by simp [cntP]
  | x :: l => by
    have := at1_bd x l p; have := cntP_bd p l; simp only [cntP, List.length_cons]; omega
theorem at1_app (x : Int) (y : Int) (l r : List Int) (p : Pr) : at1 x (y :: l ++ r) p = at1 x (y :: l) p := rfl
/-- A list, parted at an element. -/
theorem cntP_mid (p : Pr) (y : Int) (r : List Int) : ∀ l : List Int, cntP (l ++ y :: r) p = cntP (l ++ [y]) p + cntP (y :: r) p
  | [] => by simp [cntP, at1]
  | [x] => by simp [cntP, at1]
  | x :: z :: l => by
    have := cntP_mid p y r (z :: l)
    have e1 : cntP (x :: z :: l ++ y :: r) p = at1 x (z :: l) p + cntP (z :: l ++ y :: r) p := rfl
    have e2 : cntP (x :: z :: l ++ [y]) p = at1 x (z :: l) p + cntP (z :: l ++ [y]) p := rfl
    omega
/-- What a last element adds. -/
def last1 (l : List Int) (y : Int) (p : Pr) : Int := match l.getLast? with
  | none => 0
  | some x => if (x, y) = p then 1 else 0
theorem cntP_snoc (p : Pr) (y : Int) : ∀ l : List Int, cntP (l ++ [y]) p = cntP l p + last1 l y p
  | [] => by simp [cntP, at1, last1]
  | [x] => by simp [cntP, at1, last1]
  | x :: z :: l => by
    have := cntP_snoc p y (z :: l)
    have e : last1 (x :: z :: l) y p = last1 (z :: l) y p := by unfold last1; rw [List.getLast?_cons_cons]
    have e1 : cntP (x :: z :: l ++ [y]) p = at1 x (z :: l) p + cntP (z :: l ++ [y]) p := rfl
    have e2 : cntP (x :: z :: l) p = at1 x (z :: l) p + cntP (z :: l) p := rfl
    omega
/-- By how much a joining changes the counts. -/
theorem cntP_join (p : Pr) (l r : List Int) (a b s : Int) :
    cntP (l ++ s :: r) p = cntP (l ++ a :: b :: r) p - last1 l a p - (if (a, b) = p then 1 else 0) - at1 b r p + last1 l s p + at1 s r p := by
  rw [cntP_mid p s r l, cntP_mid p a (b :: r) l, cntP_snoc, cntP_snoc]
  simp only [cntP, at1]; omega
theorem joinI_len (p : Pr) (s : Int) : ∀ n (l : List Int), l.length = n → (joinI p s l).length + manyI p l = l.length := by
  intro n
  induction n using Nat.strongRecOn with
  | ind n ih =>
    intro l hn
    match l, hn with
    | [], _ => rfl
    | [x], _ => rfl
    | x :: y :: l, hn =>
      simp only [joinI, manyI]
      simp only [List.length_cons] at hn
      split
      · have := ih l.length (by omega) l rfl; simp only [List.length_cons]; omega
      · have := ih (y :: l).length (by simp; omega) (y :: l) rfl; simp only [List.length_cons] at this ⊢; omega
theorem joinI_hit {p : Pr} {s : Int} {x y : Int} {l : List Int} (h : (x, y) = p) : joinI p s (x :: y :: l) = s :: joinI p s l ∧ manyI p (x :: y :: l) = manyI p l + 1 := by
  simp only [joinI, manyI, if_pos h, and_self]
theorem joinI_miss {p : Pr} {s : Int} {x y : Int} {l : List Int} (h : (x, y) ≠ p) : joinI p s (x :: y :: l) = x :: joinI p s (y :: l) ∧ manyI p (x :: y :: l) = manyI p (y :: l) := by
  simp only [joinI, manyI, if_neg h, and_self]
/-- A pair that isn't there is not joined. -/
theorem joinI_none {p : Pr} {s : Int} : ∀ {l : List Int}, cntP l p = 0 → joinI p s l = l
  | [], _ => rfl
  | [x], _ => rfl
  | x :: y :: l, h => by
    have h1 := at1_bd x (y :: l) p
    have h2 := cntP_bd p (y :: l)
    rw [cntP] at h
    have hm : (x, y) ≠ p := fun e => by simp only [at1, if_pos e] at h1 h; omega
    rw [(joinI_miss (s := s) hm).1, joinI_none (l := y :: l) (by omega)]
/-! Chains. -/
abbrev Nd := Nat × Int
abbrev Cl := Int × Int × Int
def nxt : List (Nat × Int) → Int
  | [] => -1
  | q :: _ => q.1
/-- The cells hold a chain: each its symbol, the place behind, the place ahead. -/
def Chn (xs : List Cl) : Int → List (Nat × Int) → Prop
  | _, [] => True
  | b, q :: l => xs[q.1]? = some (q.2, b, nxt l) ∧ Chn xs q.1 l
/-- The place of the last. -/
def lst (b : Int) (l : List (Nat × Int)) : Int := match l.getLast? with
  | none => b
  | some q => q.1
theorem lst_cons (b : Int) (q : Nat × Int) (l : List (Nat × Int)) : lst b (q :: l) = lst q.1 l := by
  unfold lst
  cases l with
  | nil => rfl
  | cons r l => rw [List.getLast?_cons_cons]; cases e : (r :: l).getLast? with
    | none => simp at e
    | some z => rfl
theorem Chn.app {xs : List Cl} : ∀ {l r : List (Nat × Int)} {b : Int}, Chn xs b (l ++ r) → Chn xs (lst b l) r
  | [], _, _, h => h
  | q :: l, r, b, h => by rw [lst_cons]; exact Chn.app (l := l) h.2
theorem Chn.lt {xs : List Cl} : ∀ {l : List (Nat × Int)} {b : Int}, Chn xs b l → ∀ q ∈ l, q.1 < xs.length
  | [], _, _, q, hq => by cases hq
  | p :: l, b, h, q, hq => by
    rcases List.mem_cons.1 hq with rfl | hq
    · exact (List.getElem?_eq_some_iff.1 h.1).1
    · exact Chn.lt h.2 q hq
/-- What is written elsewhere leaves a chain. -/
theorem Chn.set {xs : List Cl} {i : Nat} {c : Cl} : ∀ {l : List (Nat × Int)} {b : Int}, Chn xs b l → (∀ q ∈ l, q.1 ≠ i) → Chn (xs.set i c) b l
  | [], _, _, _ => trivial
  | p :: l, b, h, hn => ⟨by rw [List.getElem?_set_ne (fun e => hn p (List.mem_cons_self) e.symm)]; exact h.1, Chn.set h.2 fun q hq => hn q (List.mem_cons_of_mem _ hq)⟩
theorem Chn.get {xs : List Cl} {l r : List (Nat × Int)} {q : Nat × Int} {b : Int} (h : Chn xs b (l ++ q :: r)) : xs[q.1]? = some (q.2, lst b l, nxt r) := (Chn.app h).1
theorem nxt_app {q : Nat × Int} {l r r' : List (Nat × Int)} (h : nxt r = nxt r') : nxt (l ++ r) = nxt (l ++ r') := by
  cases l with
  | nil => exact h
  | cons p l => rfl
/-- The front of a chain, with another rest. -/
theorem Chn.front {xs ys : List Cl} : ∀ {l r r' : List (Nat × Int)} {b : Int}, Chn xs b (l ++ r) → (∀ q ∈ l, ys[q.1]? = xs[q.1]?) → nxt r = nxt r' → Chn ys (lst b l) r' → Chn ys b (l ++ r')
  | [], _, _, _, _, _, _, h => h
  | q :: l, r, r', b, h, he, hn, h2 => by
    refine ⟨?_, Chn.front (l := l) h.2 (fun q hq => he q (List.mem_cons_of_mem _ hq)) hn (by rw [lst_cons] at h2; exact h2)⟩
    rw [he q List.mem_cons_self, h.1]
    cases l with
    | nil => show some (q.2, b, nxt r) = some (q.2, b, nxt r'); rw [hn]
    | cons p l => rfl
/-- A chain whose second cell is left out. -/
theorem Chn.join {xs : List Cl} {l r : List (Nat × Int)} {i j : Nat} {a b' s : Int} (h : Chn xs (-1) (l ++ (i, a) :: (j, b') :: r)) (hi : ((l ++ (i, a) :: (j, b') :: r).map (·.1)).Pairwise (· < ·)) :
    Chn (match r with
      | [] => xs.set i (s, lst (-1) l, nxt r)
      | q :: r' => (xs.set i (s, lst (-1) l, nxt r)).set q.1 (q.2, i, nxt r')) (-1) (l ++ (i, s) :: r) := by
  have hlt := Chn.lt h
  have hil : i < xs.length := hlt (i, a) (by simp)
  rw [List.map_append, List.pairwise_append] at hi
  obtain ⟨h1, h2, h3⟩ := hi
  simp only [List.map_cons, List.pairwise_cons] at h2
  have hl : ∀ q ∈ l, q.1 < i := fun q hq => h3 q.1 (List.mem_map.2 ⟨q, hq, rfl⟩) i (by simp)
  have hr : ∀ q ∈ r, i < q.1 := fun q hq => h2.1 q.1 (by simp; exact .inr ⟨q.2, hq⟩)
  have hch := Chn.app h
  cases r with
  | nil =>
    refine Chn.front h (fun q hq => ?_) rfl ⟨?_, trivial⟩
    · rw [List.getElem?_set_ne (by have := hl q hq; omega)]
    · rw [List.getElem?_set_self hil]
  | cons q r =>
    have hiq := hr q List.mem_cons_self
    have hr2 : ∀ z ∈ r, q.1 < z.1 := fun z hz => by
      have := (List.pairwise_cons.1 (show (q.1 :: r.map (·.1)).Pairwise (· < ·) from h2.2.2))
      exact this.1 z.1 (List.mem_map.2 ⟨z, hz, rfl⟩)
    have hql : q.1 < xs.length := hlt q (by simp)
    refine Chn.front h (fun z hz => ?_) rfl ⟨?_, ?_, ?_⟩
    · have := hl z hz
      rw [List.getElem?_set_ne (by omega), List.getElem?_set_ne (by omega)]
    · rw [List.getElem?_set_ne (by omega), List.getElem?_set_self hil]
    · rw [List.getElem?_set_self (by simpa using hql)]
    · refine Chn.set (Chn.set hch.2.2.2 fun z hz => ?_) fun z hz => ?_
      · have := hr z (List.mem_cons_of_mem _ hz); omega
      · have := hr2 z hz; omega
theorem inc_join {l r : List (Nat × Int)} {i j : Nat} {a b' s : Int} (hi : ((l ++ (i, a) :: (j, b') :: r).map (·.1)).Pairwise (· < ·)) : ((l ++ (i, s) :: r).map (·.1)).Pairwise (· < ·) := by
  refine hi.sublist ?_
  rw [List.map_append, List.map_append]
  exact (List.Sublist.refl _).append (by simp only [List.map_cons]; exact ((List.sublist_cons_self _ _).cons_cons _))
end Go.Proofs.Ytchjcjocihckpaa.G

/- Plain: words by merges, as texts and as symbols. -/
namespace Go.Proofs.Ytchjcjocihckpaa.G
open Go Go.RowKit
/-- A merge, done from the front on. -/
def joinT (m : Mg) : List BA → List BA
  | [] => []
  | [x] => [x]
  | x :: y :: l => if x = m.1 ∧ y = m.2 then m.tx :: joinT m l else x :: joinT m (y :: l)
theorem joinT_hit {m : Mg} {x y : BA} {l : List BA} (h : x = m.1 ∧ y = m.2) : joinT m (x :: y :: l) = m.tx :: joinT m l := by rw [joinT, if_pos h]
theorem joinT_miss {m : Mg} {x y : BA} {l : List BA} (h : ¬ (x = m.1 ∧ y = m.2)) : joinT m (x :: y :: l) = x :: joinT m (y :: l) := by rw [joinT, if_neg h]
/-- A word's bytes, each as a text. -/
def bytesT (t : BA) : List BA := t.data.toList.map one
def splitT (ms : List Mg) (t : BA) : List BA := ms.foldl (fun l m => joinT m l) (bytesT t)
theorem splitT_snoc (ms : List Mg) (m : Mg) (t : BA) : splitT (ms ++ [m]) t = joinT m (splitT ms t) := by simp [splitT, List.foldl_append]
theorem two_ind {α : Type} {p : List α → Prop} (h0 : p []) (h1 : ∀ x, p [x]) (h2 : ∀ x y l, p l → p (y :: l) → p (x :: y :: l)) : ∀ l, p l := by
  have : ∀ n (l : List α), l.length = n → p l := by
    intro n
    induction n using Nat.strongRecOn with
    | ind n ih =>
      intro l hn
      match l, hn with
      | [], _ => exact h0
      | [x], _ => exact h1 x
      | x :: y :: l, hn =>
        simp only [List.length_cons] at hn
        exact h2 x y l (ih _ (by omega) l rfl) (ih _ (by simp only [List.length_cons]; omega) (y :: l) rfl)
  exact fun l => this _ l rfl
theorem joinT_len (m : Mg) (l : List BA) : (joinT m l).length ≤ l.length := by
  induction l using two_ind with
  | h0 => simp [joinT]
  | h1 x => simp [joinT]
  | h2 x y l i1 i2 =>
    rw [joinT]; split
    · simp only [List.length_cons]; omega
    · simp only [List.length_cons] at i2 ⊢; omega
theorem splitT_len (ms : List Mg) (t : BA) : (splitT ms t).length ≤ t.size := by
  induction ms using snoc_ind with
  | h0 => show (bytesT t).length ≤ _; simp [bytesT, ba_len]
  | h1 ms m ih => rw [splitT_snoc]; exact Nat.le_trans (joinT_len _ _) ih
/-- The table of some right merges, with the sides' numbers. -/
structure Cod (ms : List Mg) (js : List Jd) : Prop where
  made : Made ms js
  nd : (js.map Jd.tx).Nodup
  get : ∀ (i : Nat) (m : Mg), ms[i]? = some m → ∃ a b : Int, js[i]? = some (a, b, m.tx) ∧ txOf js a = some m.1 ∧ txOf js b = some m.2
theorem Cod.nil : Cod [] [] := ⟨Made.nil, by simp, fun i m h => by simp at h⟩
theorem Cod.len {ms : List Mg} {js : List Jd} (h : Cod ms js) : js.length = ms.length := by
  have := congrArg List.length h.made.tx; simpa using this
theorem txOf_app {js : List Jd} {a : Int} {s : BA} (l : List Jd) (h : txOf js a = some s) : txOf (js ++ l) a = some s := by
  unfold txOf at h ⊢
  split at h
  · cases h
  · rename_i h0; rw [if_neg h0]
    split at h
    · rename_i h1; rw [if_pos h1]; exact h
    · rename_i h1; rw [if_neg h1]
      rw [Option.map_eq_some_iff] at h ⊢
      obtain ⟨j, hj, e⟩ := h
      exact ⟨j, by rw [List.getElem?_append_left (gl hj)]; exact hj, e⟩
theorem Cod.snoc {ms : List Mg} {js : List Jd} {m : Mg} {a b : Int} (h : Cod ms js) (hM : Made (ms ++ [m]) (js ++ [(a, b, m.tx)])) (hn : ∀ k ∈ ms, k.tx ≠ m.tx) (ha : fnd js m.1 = some a) (hb : fnd js m.2 = some b) : Cod (ms ++ [m]) (js ++ [(a, b, m.tx)]) := by
  refine ⟨hM, ?_, fun i q hq => ?_⟩
  · rw [List.map_append, List.nodup_append]
    refine ⟨h.nd, by simp, fun x hx y hy => ?_⟩
    simp only [List.map_cons, List.map_nil, List.mem_singleton] at hy
    subst hy
    rw [h.made.tx, List.mem_map] at hx
    obtain ⟨k, hk, rfl⟩ := hx
    exact hn k hk
  · rcases Nat.lt_or_ge i ms.length with hi | hi
    · rw [List.getElem?_append_left hi] at hq
      obtain ⟨x, y, h1, h2, h3⟩ := h.get i q hq
      exact ⟨x, y, by rw [List.getElem?_append_left (gl h1)]; exact h1, txOf_app _ h2, txOf_app _ h3⟩
    · rw [List.getElem?_append_right hi] at hq
      have : i - ms.length = 0 := by
        rcases Nat.eq_zero_or_pos (i - ms.length) with e | e
        · exact e
        · rw [List.getElem?_eq_none (by simp; omega)] at hq; cases hq
      rw [this] at hq
      simp only [List.getElem?_cons_zero, Option.some.injEq] at hq
      subst hq
      have hl := h.len
      refine ⟨a, b, ?_, txOf_app _ (fnd_txOf ha), txOf_app _ (fnd_txOf hb)⟩
      rw [List.getElem?_append_right (by omega), show i - js.length = 0 by omega]; rfl
theorem nodup_at {α : Type} {l : List α} (h : l.Nodup) {i j : Nat} {x : α} (hi : l[i]? = some x) (hj : l[j]? = some x) : i = j := by
  obtain ⟨h1, e1⟩ := List.getElem?_eq_some_iff.1 hi
  obtain ⟨h2, e2⟩ := List.getElem?_eq_some_iff.1 hj
  rcases Nat.lt_trichotomy i j with hlt | hlt | hlt
  · exact absurd (e1.trans e2.symm) (List.pairwise_iff_getElem.1 h i j h1 h2 hlt)
  · exact hlt
  · exact absurd (e2.trans e1.symm) (List.pairwise_iff_getElem.1 h j i h2 h1 hlt)
/-- The number of a text, by the document. -/
def symM (ms : List Mg) (s : BA) : Int := if s.size = 1 then ((s.data.toList.getD 0 0).toNat : Int) else match ms.findIdx? fun m => decide (m.tx = s) with | some i => ((256 + i : Nat) : Int) | none => -1
theorem Cod.sym {ms : List Mg} {js : List Jd} (h : Cod ms js) {x : Int} {s : BA} (hx : txOf js x = some s) : symM ms s = x := by
  unfold txOf at hx
  split at hx
  · cases hx
  · rename_i h0
    split at hx
    · rename_i h1
      cases hx
      unfold symM
      rw [if_pos (one_size _)]
      show (((UInt8.ofNat x.toNat).toNat : Nat) : Int) = x
      rw [UInt8.toNat_ofNat', Nat.mod_eq_of_lt (by omega)]; omega
    · rename_i h1
      rw [Option.map_eq_some_iff] at hx
      obtain ⟨j, hj, rfl⟩ := hx
      have h2 := h.made.two j (gm hj)
      unfold symM
      rw [if_neg (by omega)]
      have hm : (ms.map Mg.tx)[x.toNat - 256]? = some j.tx := by rw [← h.made.tx, List.getElem?_map, hj]; rfl
      have hnd : (ms.map Mg.tx).Nodup := h.made.tx ▸ h.nd
      rw [List.getElem?_map, Option.map_eq_some_iff] at hm
      obtain ⟨m, hm, he⟩ := hm
      cases e : ms.findIdx? fun m => decide (m.tx = j.tx) with
      | none =>
        rw [List.findIdx?_eq_none_iff] at e
        have := e m (gm hm)
        simp [he] at this
      | some i =>
        rw [List.findIdx?_eq_some_iff_getElem] at e
        obtain ⟨hi, hd, _⟩ := e
        have hd := of_decide_eq_true hd
        have := nodup_at hnd (i := i) (j := x.toNat - 256) (x := j.tx) (by rw [List.getElem?_map, List.getElem?_eq_getElem hi]; simp [hd]) (by rw [List.getElem?_map, hm]; simp [he])
        simp only; omega
theorem Cod.inj {ms : List Mg} {js : List Jd} (h : Cod ms js) {x y : Int} {s : BA} (hx : txOf js x = some s) (hy : txOf js y = some s) : x = y := by rw [← h.sym hx, h.sym hy]
/-- The texts of symbols. -/
def txs (js : List Jd) (l : List Int) : List BA := l.map fun x => (txOf js x).getD ⟨#[]⟩
def Val (js : List Jd) (l : List Int) : Prop := ∀ x ∈ l, (txOf js x).isSome
theorem Cod.bys {ms : List Mg} {js : List Jd} (h : Cod ms js) {l : List Int} (hv : Val js l) : (txs js l).map (symM ms) = l := by
  unfold txs
  rw [List.map_map]
  conv => rhs; rw [← List.map_id l]
  apply List.map_congr_left
  intro x hx
  obtain ⟨s, hs⟩ := Option.isSome_iff_exists.1 (hv x hx)
  simp only [Function.comp, hs, Option.getD_some, id]
  exact h.sym hs
/-- A merge of texts is a joining of symbols. -/
theorem Cod.join {ms : List Mg} {js : List Jd} (h : Cod ms js) {i : Nat} {m : Mg} {a b : Int} (hj : js[i]? = some (a, b, m.tx)) (ha : txOf js a = some m.1) (hb : txOf js b = some m.2) (l : List Int) (hv : Val js l) :
    joinT m (txs js l) = txs js (joinI (a, b) ((256 + i : Nat) : Int) l) ∧ Val js (joinI (a, b) ((256 + i : Nat) : Int) l) := by
  have hi : txOf js ((256 + i : Nat) : Int) = some m.tx := by
    unfold txOf
    rw [if_neg (by omega), if_neg (by omega), show ((256 + i : Nat) : Int).toNat - 256 = i by omega, hj]; rfl
  generalize ((256 + i : Nat) : Int) = y at hi ⊢
  induction l using two_ind with
  | h0 => exact ⟨rfl, hv⟩
  | h1 x => exact ⟨rfl, hv⟩
  | h2 x z l i1 i2 =>
    have hx := hv x (by simp)
    have hy := hv z (by simp)
    obtain ⟨s, hs⟩ := Option.isSome_iff_exists.1 hx
    obtain ⟨t, ht⟩ := Option.isSome_iff_exists.1 hy
    have e1 : txs js (x :: z :: l) = s :: t :: txs js l := by simp [txs, hs, ht]
    have e2 : txs js (z :: l) = t :: txs js l := by simp [txs, ht]
    obtain ⟨j1, v1⟩ := i1 fun q hq => hv q (by simp [hq])
    obtain ⟨j2, v2⟩ := i2 fun q hq => hv q (List.mem_cons_of_mem _ hq)
    by_cases hp : (x, z) = (a, b)
    · rw [(joinI_hit hp).1, e1]
      cases hp
      rw [ha] at hs; rw [hb] at ht
      cases hs; cases ht
      rw [joinT_hit ⟨rfl, rfl⟩, j1]
      refine ⟨by simp [txs, hi], fun q hq => ?_⟩
      rcases List.mem_cons.1 hq with rfl | hq
      · rw [hi]; rfl
      · exact v1 q hq
    · rw [(joinI_miss hp).1, e1, joinT_miss, ← e2, j2]
      · refine ⟨by simp [txs, hs], fun q hq => ?_⟩
        rcases List.mem_cons.1 hq with rfl | hq
        · exact hx
        · exact v2 q hq
      · rintro ⟨rfl, rfl⟩
        exact hp (Prod.ext (h.inj hs ha) (h.inj ht hb))
/-! Bytes, as symbols. -/
theorem val_bytes (js : List Jd) (t : BA) : Val js (t.data.toList.map fun c => ((c.toNat : Nat) : Int)) ∧ txs js (t.data.toList.map fun c => ((c.toNat : Nat) : Int)) = bytesT t := by
  have key : ∀ c : UInt8, txOf js ((c.toNat : Nat) : Int) = some (one c) := fun c => by
    have := toNat_lt c
    unfold txOf
    rw [if_neg (by omega), if_pos this, Int.toNat_natCast, UInt8.ofNat_toNat]
  refine ⟨fun x hx => ?_, ?_⟩
  · obtain ⟨c, _, rfl⟩ := List.mem_map.1 hx
    rw [key]; rfl
  · unfold txs bytesT
    rw [List.map_map]
    apply List.map_congr_left
    intro c _
    simp [Function.comp, key]
end Go.Proofs.Ytchjcjocihckpaa.G

/- Plain: texts one behind another; what symbols spell. -/
namespace Go.Proofs.Ytchjcjocihckpaa.G
open Go Go.RowKit
def flatB (l : List BA) : BA := l.foldl (· ++ ·) ⟨#[]⟩
theorem flatB_snoc (l : List BA) (u : BA) : flatB (l ++ [u]) = flatB l ++ u := by simp [flatB, List.foldl_append]
theorem foldl_app (a : BA) : ∀ l : List BA, l.foldl (· ++ ·) a = a ++ flatB l
  | [] => (show a = a ++ ByteArray.empty by simp)
  | u :: l => by
    rw [List.foldl_cons, foldl_app (a ++ u) l]
    unfold flatB
    rw [List.foldl_cons, foldl_app (⟨#[]⟩ ++ u) l, ByteArray.append_assoc]
    congr 1
theorem flatB_cons (u : BA) (l : List BA) : flatB (u :: l) = u ++ flatB l := by
  have : flatB (u :: l) = l.foldl (· ++ ·) ((⟨#[]⟩ : ByteArray) ++ u) := rfl
  have e : (⟨#[]⟩ : ByteArray) ++ u = u := (show ByteArray.empty ++ u = u by simp)
  rw [this, e, foldl_app]
theorem flatB_app (l m : List BA) : flatB (l ++ m) = flatB l ++ flatB m := by
  induction l with
  | nil => exact (show flatB m = ByteArray.empty ++ flatB m by simp)
  | cons u l ih => rw [List.cons_append, flatB_cons, flatB_cons, ih, ByteArray.append_assoc]
theorem flatB_at {L : List BA} {k : Nat} {u : BA} (h : L[k]? = some u) : (flatB (L.take k)).size + u.size ≤ (flatB L).size := by
  have e : L = L.take (k + 1) ++ L.drop (k + 1) := (List.take_append_drop _ _).symm
  have e2 := congrArg (fun l => (flatB l).size) e
  simp only [flatB_app, tk h, flatB_snoc] at e2
  have h1 := ba_append_size (flatB (L.take k) ++ u) (flatB (L.drop (k + 1)))
  have h2 := ba_append_size (flatB (L.take k)) u
  have : (flatB L).size = (flatB (L.take k) ++ u ++ flatB (L.drop (k + 1))).size := e2
  omega
theorem flatB_joinT (m : Mg) (l : List BA) : flatB (joinT m l) = flatB l := by
  induction l using two_ind with
  | h0 => rfl
  | h1 x => rfl
  | h2 x y l i1 i2 =>
    rw [joinT]; split
    · rename_i h
      rw [flatB_cons, flatB_cons, flatB_cons, i1, h.1, h.2, ← ByteArray.append_assoc]
    · rw [flatB_cons, i2, flatB_cons x]
theorem flatB_bytes (t : BA) : flatB (bytesT t) = t := by
  have key : ∀ l : List UInt8, flatB (l.map one) = ⟨l.toArray⟩ := by
    intro l
    induction l with
    | nil => rfl
    | cons c l ih =>
      rw [List.map_cons, flatB_cons, ih]
      apply ByteArray.ext
      rw [ByteArray.data_append]
      simp [one]
  unfold bytesT
  rw [key]
theorem flatB_split (ms : List Mg) (t : BA) : flatB (splitT ms t) = t := by
  induction ms using snoc_ind with
  | h0 => exact flatB_bytes t
  | h1 ms m ih => rw [splitT_snoc, flatB_joinT, ih]
theorem flatB_size {n : Nat} : ∀ l : List BA, (∀ u ∈ l, u.size ≤ n) → (flatB l).size ≤ l.length * n
  | [], _ => by show (0 : Nat) ≤ _; omega
  | u :: l, h => by
    have h1 := h u (by simp)
    have h2 := flatB_size l fun v hv => h v (by simp [hv])
    rw [flatB_cons, ba_append_size, List.length_cons, Nat.add_mul]; omega
/-- What a symbol spells, by the merges alone. -/
theorem Cod.txOf_eq {ms : List Mg} {js : List Jd} (h : Cod ms js) (x : Int) : txOf js x = if x < 0 then none else if x < 256 then some (one (UInt8.ofNat x.toNat)) else (ms[x.toNat - 256]?).map Mg.tx := by
  unfold txOf
  split
  · rfl
  · split
    · rfl
    · have := congrArg (·[x.toNat - 256]?) h.made.tx
      simpa only [List.getElem?_map] using this
theorem txs_cons (js : List Jd) (x : Int) (l : List Int) : txs js (x :: l) = (txOf js x).getD ⟨#[]⟩ :: txs js l := rfl
theorem txs_snoc (js : List Jd) (x : Int) (l : List Int) : txs js (l ++ [x]) = txs js l ++ [(txOf js x).getD ⟨#[]⟩] := by simp [txs]
theorem txs_take (js : List Jd) (l : List Int) (k : Nat) : txs js (l.take k) = (txs js l).take k := by simp [txs, List.map_take]
theorem Val.snoc {js : List Jd} {l : List Int} {x : Int} (h : Val js l) (hx : (txOf js x).isSome) : Val js (l ++ [x]) := by
  intro y hy
  rcases List.mem_append.1 hy with hy | hy
  · exact h y hy
  · rw [List.mem_singleton] at hy; subst hy; exact hx
end Go.Proofs.Ytchjcjocihckpaa.G
