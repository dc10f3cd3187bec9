/- Plain: the table of symbols, and what it makes of merges. -/
import Derived.Test.YtchjcjocihckpaaPa
namespace Go.Proofs.Ytchjcjocihckpaa.G
open Go Go.RowKit
/-- A symbol that was joined: its sides' numbers and its text. -/
abbrev Jd := Int × Int × BA
abbrev Jd.tx (j : Jd) : BA := j.2.2
def jdE (j : Jd) : List Value := [.int .i64 j.1, .int .i64 j.2.1, .string j.2.2]
theorem jdE_len (j : Jd) : (jdE j).length = 3 := rfl
def one (c : UInt8) : BA := ⟨#[c]⟩
/-- The place of a text among those joined. -/
def at? (x : BA) (js : List Jd) : Option Nat := js.findIdx? fun j => decide (j.tx = x)
/-- The number of a text that was joined. -/
def idx (x : BA) (js : List Jd) : Option Int := (at? x js).map fun i => ((256 + i : Nat) : Int)
/-- The text of a number. -/
def txOf (js : List Jd) (a : Int) : Option BA :=
  if a < 0 then none else if a < 256 then some (one (UInt8.ofNat a.toNat)) else (js[a.toNat - 256]?).map Jd.tx
/-- The number of a text. -/
def fnd (js : List Jd) (s : BA) : Option Int := if s.size = 1 then some ((s.data.toList.getD 0 0).toNat : Int) else idx s js
/-- The sum of two symbols: the table behind it, its number, and what is the matter. -/
def joinS (js : List Jd) (a b : Int) : List Jd × Int × Nat :=
  match txOf js a, txOf js b with
  | some s, some t => if 65536 < s.size + t.size then (js, 0, 4) else if (fnd js (s ++ t)).isSome then (js, 0, 8) else (js ++ [(a, b, s ++ t)], (256 + js.length : Nat), 0)
  | _, _ => (js, 0, 1)
def fileJoin (js : List Jd) (m : Mg) : List Jd × Nat :=
  match fnd js m.1, fnd js m.2 with
  | some a, some b => ((joinS js a b).1, (joinS js a b).2.2)
  | _, _ => (js, 7)
/-- A table that was made by some merges. -/
structure Made (pre : List Mg) (js : List Jd) : Prop where
  tx : js.map Jd.tx = pre.map Mg.tx
  two : ∀ j ∈ js, 2 ≤ j.tx.size
theorem Made.nil : Made [] [] := ⟨rfl, by simp⟩
theorem one_of_size {s : BA} (h : s.size = 1) : s = one (s.data.toList.getD 0 0) := by
  rcases s with ⟨⟨l⟩⟩
  match l, h with
  | [c], _ => rfl
theorem one_size (c : UInt8) : (one c).size = 1 := rfl
theorem toNat_lt (c : UInt8) : ((c.toNat : Nat) : Int) < 256 := by have := c.toNat_lt; omega
theorem fnd_txOf {js : List Jd} {s : BA} {a : Int} (h : fnd js s = some a) : txOf js a = some s := by
  unfold fnd at h
  split at h
  · rename_i h1
    cases h
    have := toNat_lt (s.data.toList.getD 0 0)
    rw [txOf, if_neg (by omega), if_pos this, Int.toNat_natCast, UInt8.ofNat_toNat, ← one_of_size h1]
  · unfold idx at h
    rw [Option.map_eq_some_iff] at h
    obtain ⟨i, h2, rfl⟩ := h
    unfold at? at h2
    rw [List.findIdx?_eq_some_iff_getElem] at h2
    obtain ⟨hi, h3, _⟩ := h2
    have h3 := of_decide_eq_true h3
    rw [txOf, if_neg (by omega), if_neg (by omega), show ((256 + i : Nat) : Int).toNat - 256 = i by omega, List.getElem?_eq_getElem hi]
    simpa using h3
theorem any_tx {pre : List Mg} {js : List Jd} (h : Made pre js) (x : BA) : (js.any fun j => decide (j.tx = x)) = pre.any fun m => decide (m.tx = x) := by
  have e1 : ∀ l : List Jd, (l.any fun j => decide (j.tx = x)) = (l.map Jd.tx).any fun y => decide (y = x) := fun l => by rw [List.any_map]; rfl
  have e2 : ∀ l : List Mg, (l.any fun j => decide (j.tx = x)) = (l.map Mg.tx).any fun y => decide (y = x) := fun l => by rw [List.any_map]; rfl
  rw [e1, e2, h.tx]
theorem idx_some (x : BA) (js : List Jd) : (idx x js).isSome = js.any fun j => decide (j.tx = x) := by
  unfold idx at?
  rw [Option.isSome_map, List.findIdx?_isSome]
theorem fnd_some {pre : List Mg} {js : List Jd} (h : Made pre js) (s : BA) : (fnd js s).isSome = side s pre := by
  unfold fnd side
  split
  · rename_i h1; simp [h1]
  · rename_i h1; rw [idx_some, any_tx h]; simp [h1]
theorem ba_append_size (a b : BA) : (a ++ b).size = a.size + b.size := ByteArray.size_append
theorem side_pos {pre : List Mg} {js : List Jd} (h : Made pre js) {s : BA} (hs : side s pre = true) : 1 ≤ s.size := by
  unfold side at hs
  rw [Bool.or_eq_true, decide_eq_true_eq, ← any_tx h, List.any_eq_true] at hs
  rcases hs with hs | ⟨j, hj, he⟩
  · omega
  · have := h.two j hj; rw [of_decide_eq_true he] at this; omega
/-- What the table makes of a merge is what the document says. -/
theorem made_join {pre : List Mg} {js : List Jd} (h : Made pre js) (m : Mg) :
    (fileJoin js m).2 = bad pre m ∧ ((fileJoin js m).2 = 0 → ∃ a b, fnd js m.1 = some a ∧ fnd js m.2 = some b ∧ (fileJoin js m).1 = js ++ [(a, b, m.tx)] ∧ Made (pre ++ [m]) (js ++ [(a, b, m.tx)])) ∧ ((fileJoin js m).2 ≠ 0 → (fileJoin js m).1 = js) := by
  unfold fileJoin bad
  have s1 := fnd_some h m.1
  have s2 := fnd_some h m.2
  cases e1 : fnd js m.1 with
  | none => rw [e1] at s1; rw [← s1]; simp
  | some a =>
    cases e2 : fnd js m.2 with
    | none => rw [e2] at s2; rw [← s2]; simp
    | some b =>
      rw [e1] at s1; rw [e2] at s2
      rw [← s1, ← s2]
      have p1 := side_pos h s1.symm
      have p2 := side_pos h s2.symm
      simp only [joinS, fnd_txOf e1, fnd_txOf e2]
      have s3 : (fnd js (m.1 ++ m.2)).isSome = pre.any fun k => decide (k.tx = m.tx) := by
        rw [fnd_some h, side]
        have : decide ((m.1 ++ m.2).size = 1) = false := decide_eq_false (by rw [ba_append_size]; omega)
        rw [this, Bool.false_or]
      by_cases h4 : 65536 < m.1.size + m.2.size
      · simp [h4]
      · simp only [h4, if_false, s3]
        cases h8 : pre.any fun k => decide (k.tx = m.tx) with
        | true => simp
        | false =>
          refine ⟨by simp, fun _ => ⟨a, b, rfl, rfl, rfl, ?_, ?_⟩, by simp⟩
          · simp [h.tx]
          · intro j hj
            rcases List.mem_append.1 hj with hj | hj
            · exact h.two j hj
            · simp only [List.mem_singleton] at hj; subst hj
              show 2 ≤ (m.1 ++ m.2).size
              rw [ba_append_size]; omega
end Go.Proofs.Ytchjcjocihckpaa.G
