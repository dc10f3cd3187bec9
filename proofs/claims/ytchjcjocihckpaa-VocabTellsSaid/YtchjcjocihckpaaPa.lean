/- Plain: what the functions of the lower layers answer, said of lists. -/
import Derived.Test.YtchjcjocihckpaaGr
namespace Go.Proofs.Ytchjcjocihckpaa.G
open Go Go.RowKit
abbrev BA := ByteArray
/-- A merge: its sides. -/
abbrev Mg := BA × BA
abbrev Mg.tx (m : Mg) : BA := m.1 ++ m.2
def mgE (m : Mg) : List Value := [.string m.1, .string m.2]
def strE (s : BA) : List Value := [.string s]
def intE (z : Int) : List Value := [.int .i64 z]
theorem mgE_len (m : Mg) : (mgE m).length = 2 := rfl
theorem strE_len (m : BA) : (strE m).length = 1 := rfl
theorem intE_len (m : Int) : (intE m).length = 1 := rfl
theorem tk {α : Type} {xs : List α} {i : Nat} {x : α} (h : xs[i]? = some x) : xs.take (i + 1) = xs.take i ++ [x] := by
  rw [List.take_add_one, h]; rfl
theorem gl {α : Type} {xs : List α} {i : Nat} {x : α} (h : xs[i]? = some x) : i < xs.length := (List.getElem?_eq_some_iff.1 h).1
theorem gm {α : Type} {xs : List α} {i : Nat} {x : α} (h : xs[i]? = some x) : x ∈ xs := List.mem_of_getElem? h
section
variable {w : World} {s : Sl} {i : Nat}
theorem Rows.mg {ms : List Mg} (h : Rows w 2 mgE s ms) (hi : i < s.n) : ∃ b o m, s.b = some ⟨b, o, none⟩ ∧ ms[i]? = some m ∧ w.cell? ⟨b, o + i * 2, none⟩ = some (.string m.1) ∧ w.cell? ⟨b, o + i * 2 + 1, none⟩ = some (.string m.2) := by
  obtain ⟨b, o, e, hl, hc⟩ := h.get hi
  exact ⟨b, o, ms[i], e, List.getElem?_eq_getElem hl, (show Cells w b (o + i * 2) [_, _] from hc).1, (show Cells w b (o + i * 2) [_, _] from hc).2.1⟩
theorem Rows.str {ms : List BA} (h : Rows w 1 strE s ms) (hi : i < s.n) : ∃ b o m, s.b = some ⟨b, o, none⟩ ∧ ms[i]? = some m ∧ w.cell? ⟨b, o + i * 1, none⟩ = some (.string m) := by
  obtain ⟨b, o, e, hl, hc⟩ := h.get hi
  exact ⟨b, o, ms[i], e, List.getElem?_eq_getElem hl, (show Cells w b (o + i * 1) [_] from hc).1⟩
theorem Rows.int {ms : List Int} (h : Rows w 1 intE s ms) (hi : i < s.n) : ∃ b o m, s.b = some ⟨b, o, none⟩ ∧ ms[i]? = some m ∧ w.cell? ⟨b, o + i * 1, none⟩ = some (.int .i64 m) := by
  obtain ⟨b, o, e, hl, hc⟩ := h.get hi
  exact ⟨b, o, ms[i], e, List.getElem?_eq_getElem hl, (show Cells w b (o + i * 1) [_] from hc).1⟩
end
/-- How long the sides may be, that their sum is a number of the machine. -/
def Sm (ms : List Mg) : Prop := ∀ m ∈ ms, m.1.size ≤ 1099511627776 ∧ m.2.size ≤ 1099511627776
theorem Sm.take {ms : List Mg} (h : Sm ms) (n : Nat) : Sm (ms.take n) := fun m hm => h m (List.mem_of_mem_take hm)
/-- Is a side of one byte, or made by one of some merges? -/
def side (s : BA) (ms : List Mg) : Bool := decide (s.size = 1) || ms.any fun m => decide (m.tx = s)
/-- What is the matter with a merge behind some others; 0: nothing. -/
def bad (ms : List Mg) (m : Mg) : Nat :=
  if !side m.1 ms || !side m.2 ms then 7 else if 65536 < m.1.size + m.2.size then 4 else if ms.any fun k => decide (k.tx = m.tx) then 8 else 0
/-- The first merge with which something is the matter, and what. -/
def checkFrom : List Mg → List Mg → Int × Nat
  | _, [] => (-1, 0)
  | pre, m :: ms => if bad pre m ≠ 0 then (pre.length, bad pre m) else checkFrom (pre ++ [m]) ms
def check (ms : List Mg) : Int × Nat := checkFrom [] ms
theorem check_at {ms : List Mg} {i : Nat} {m : Mg} (hm : ms[i]? = some m) (h : check ms = checkFrom (ms.take i) (ms.drop i)) :
    (bad (ms.take i) m ≠ 0 → check ms = ((i : Int), bad (ms.take i) m)) ∧ (bad (ms.take i) m = 0 → check ms = checkFrom (ms.take (i + 1)) (ms.drop (i + 1))) := by
  have hd : ms.drop i = m :: ms.drop (i + 1) := by
    have := gl hm; rw [List.drop_eq_getElem_cons this]; congr 1
    rw [List.getElem?_eq_getElem this] at hm; exact Option.some.inj hm
  rw [h, hd, checkFrom, ← tk hm, List.length_take, Nat.min_eq_left (Nat.le_of_lt (gl hm))]
  exact ⟨fun h => if_pos h, fun h => if_neg (by simp [h])⟩
theorem check_end {ms : List Mg} {i : Nat} (hi : ms.length ≤ i) (h : check ms = checkFrom (ms.take i) (ms.drop i)) : check ms = (-1, 0) := by
  rw [h, List.drop_eq_nil_of_le hi]; rfl
/-- Good merges: nothing is the matter. -/
def good (ms : List Mg) : Prop := ∀ i m, ms[i]? = some m → bad (ms.take i) m = 0
/-- Are there more merges than are looked at, or longer sides? -/
def great (ms : List Mg) (most : Int) : Bool := (ms.any fun m => decide (300 < m.1.size) || decide (300 < m.2.size)) || decide (most < ms.length)
theorem ble_ne : ∀ (k : Nat) {la lb : List UInt8} {x y : UInt8}, la.take k = lb.take k → la[k]? = some x → lb[k]? = some y → x ≠ y → Op.bytesLess la lb = decide (x < y)
  | 0, a :: la, b :: lb, x, y, _, hx, hy, hne => by
    simp at hx hy; subst hx hy
    have : (a == b) = false := by simpa using hne
    simp [Op.bytesLess, this]
  | k + 1, a :: la, b :: lb, x, y, ht, hx, hy, hne => by
    simp only [List.take_succ_cons, List.cons.injEq] at ht
    obtain ⟨rfl, ht⟩ := ht
    have := ble_ne k ht (by simpa using hx) (by simpa using hy) hne
    simp [Op.bytesLess, this, UInt8.lt_irrefl]
  | 0, [], _, _, _, _, hx, _, _ => by simp at hx
  | 0, _ :: _, [], _, _, _, _, hy, _ => by simp at hy
  | _ + 1, [], _, _, _, _, hx, _, _ => by simp at hx
  | _ + 1, _ :: _, [], _, _, _, _, hy, _ => by simp at hy
theorem ble_end : ∀ (k : Nat) {la lb : List UInt8}, la.take k = lb.take k → k = la.length ∨ k = lb.length → k ≤ la.length → k ≤ lb.length → Op.bytesLess la lb = decide (la.length < lb.length)
  | 0, [], [], _, _, _, _ => rfl
  | 0, [], _ :: _, _, _, _, _ => by simp [Op.bytesLess]
  | 0, _ :: _, [], _, _, _, _ => by simp [Op.bytesLess]
  | 0, _ :: _, _ :: _, _, h, _, _ => by simp at h
  | k + 1, a :: la, b :: lb, ht, h, h1, h2 => by
    simp only [List.take_succ_cons, List.cons.injEq] at ht
    obtain ⟨rfl, ht⟩ := ht
    have := ble_end k ht (by simpa using h) (by simpa using h1) (by simpa using h2)
    simp [Op.bytesLess, this, UInt8.lt_irrefl]
  | _ + 1, [], _, _, _, h1, _ => by simp at h1
  | _ + 1, _ :: _, [], _, _, _, h2 => by simp at h2
theorem ba_at {a : BA} {k : Nat} (h : k < a.size) : a.data.toList[k]? = some (a.data.toList.getD k 0) := by
  have : k < a.data.toList.length := h
  rw [List.getD_eq_getElem?_getD, List.getElem?_eq_getElem this]; rfl
theorem ba_len (a : BA) : a.data.toList.length = a.size := rfl
theorem size_ne {u : BA} : u ≠ (⟨#[]⟩ : ByteArray) ↔ u.size ≠ 0 := by
  constructor
  · intro h e; apply h; rcases u with ⟨⟨l⟩⟩
    match l, e with
    | [], _ => rfl
  · intro h e; subst e; exact h rfl
end Go.Proofs.Ytchjcjocihckpaa.G
