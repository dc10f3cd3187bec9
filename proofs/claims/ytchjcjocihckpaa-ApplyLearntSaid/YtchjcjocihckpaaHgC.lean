/- Contracts: sums and products that are checked; a counter of words. -/
import Derived.Test.YtchjcjocihckpaaGkC
import Derived.Test.YtchjcjocihckpaaHaC
namespace Go.Proofs.Ytchjcjocihckpaa.G
open Go Go.RowKit
def addS (a b : Int) : Int × Bool := if a < 0 ∨ b < 0 ∨ 9223372036854775807 < a + b then (0, false) else (a + b, true)
def mulS (a b : Int) : Int × Bool := if a < 0 ∨ b < 0 ∨ 9223372036854775807 < a * b then (0, false) else (a * b, true)
abbrev I64 (a : Int) : Prop := -9223372036854775808 ≤ a ∧ a ≤ 9223372036854775807
theorem addS_no {a b : Int} (h : a < 0 ∨ b < 0 ∨ 9223372036854775807 < a + b) : addS a b = (0, false) := if_pos h
theorem addS_ok {a b : Int} (h : 0 ≤ a ∧ 0 ≤ b ∧ a + b ≤ 9223372036854775807) : addS a b = (a + b, true) := if_neg (by omega)
theorem mulS_no {a b : Int} (h : a < 0 ∨ b < 0 ∨ 9223372036854775807 < a * b) : mulS a b = (0, false) := if_pos h
theorem mulS_ok {a b : Int} (h : 0 ≤ a ∧ 0 ≤ b ∧ a * b ≤ 9223372036854775807) : mulS a b = (a * b, true) := if_neg (by omega)
section
variable {w : World}
theorem k_within {a : Int} {R : Bool → World → Prop} (h : R (decide (0 ≤ a)) w) : Calls PP n_checked_within #[.int .i64 a] w fun e w' => ∃ r : Bool, e = .returned (.bool r) ∧ R r w' :=
  vc_checked_within h
theorem k_checked_Add {a b : Int} {R : Int → Bool → World → Prop} (ha : I64 a) (hb : I64 b) (h : R (addS a b).1 (addS a b).2 w) :
    Calls PP n_checked_Add #[.int .i64 a, .int .i64 b] w fun e w' => ∃ (r : Int) (q : Bool), e = .returned (.tuple #[.int .i64 r, .bool q]) ∧ R r q w' := by
  refine vc_checked_Add ?_
  unfold VC_checked_Add
  refine ⟨fun j w' => w' = w ∧ j = decide (a < 0 ∨ b < 0 ∨ 9223372036854775807 < a + b), ?_, k_within ⟨fun h1 => k_within ⟨fun h2 => ⟨_, rfl, rfl, ?_⟩, fun h2 => ⟨rfl, ?_⟩⟩, fun h1 => ⟨rfl, ?_⟩⟩⟩
  · rintro j w' ⟨rfl, rfl⟩
    refine ⟨fun hj => ?_, fun hj => ?_⟩
    · rw [addS_no (of_decide_eq_true hj)] at h; exact h
    · have hj := of_decide_eq_false hj
      rw [addS_ok (by omega)] at h
      exact ⟨_, rfl, by rw [wr64 (by omega)]; exact h⟩
  · rw [decide_eq_true_eq] at h1 h2
    rw [wr64 (by omega)]
    exact decide_eq_decide.2 (by omega)
  · rw [decide_eq_false_iff_not] at h2; symm; rw [decide_eq_true_eq]; omega
  · rw [decide_eq_false_iff_not] at h1; symm; rw [decide_eq_true_eq]; omega
theorem k_ref06_Add {a b : Int} {R : Int → Bool → World → Prop} (ha : I64 a) (hb : I64 b) (h : R (addS a b).1 (addS a b).2 w) :
    Calls PP n_ref06_Add #[.int .i64 a, .int .i64 b] w fun e w' => ∃ (r : Int) (q : Bool), e = .returned (.tuple #[.int .i64 r, .bool q]) ∧ R r q w' := by
  refine vc_ref06_Add ?_
  unfold VC_ref06_Add
  refine ⟨fun j w' => w' = w ∧ j = decide (a < 0 ∨ b < 0 ∨ 9223372036854775807 < a + b), ?_, fun h1 => ⟨rfl, ?_⟩, fun h1 => ⟨fun h2 => ⟨rfl, ?_⟩, fun h2 => ⟨_, rfl, rfl, ?_⟩⟩⟩
  · rintro j w' ⟨rfl, rfl⟩
    refine ⟨fun hj => ?_, fun hj => ?_⟩
    · rw [addS_no (of_decide_eq_true hj)] at h; exact h
    · have hj := of_decide_eq_false hj
      rw [addS_ok (by omega)] at h
      exact ⟨_, rfl, by rw [wr64 (by omega)]; exact h⟩
  · symm; rw [decide_eq_true_eq]; omega
  · symm; rw [decide_eq_true_eq]; omega
  · refine decide_eq_decide.2 ?_
    rw [IntKind.wrap_i64]; omega
theorem wru64 {n : Int} (h : 0 ≤ n ∧ n < 18446744073709551616) : IntKind.wrap .u64 n = n := by
  rw [IntKind.wrap_u64]; omega
theorem k_checked_Mul {a b : Int} {R : Int → Bool → World → Prop} (ha : I64 a) (hb : I64 b) (h : R (mulS a b).1 (mulS a b).2 w) :
    Calls PP n_checked_Mul #[.int .i64 a, .int .i64 b] w fun e w' => ∃ (r : Int) (q : Bool), e = .returned (.tuple #[.int .i64 r, .bool q]) ∧ R r q w' := by
  refine vc_checked_Mul ?_
  unfold VC_checked_Mul
  refine ⟨fun j w' => w' = w ∧ j = decide (a < 0 ∨ b < 0), ?_, k_within ⟨fun h1 => k_within ⟨rfl, ?_⟩, fun h1 => ⟨rfl, ?_⟩⟩⟩
  · rintro j w' ⟨rfl, rfl⟩
    refine ⟨fun hj => ?_, fun hj => ?_⟩
    · have hj := of_decide_eq_true hj
      rw [mulS_no (by omega)] at h; exact h
    · have hj := of_decide_eq_false hj
      obtain ⟨x, rfl⟩ : ∃ x : Nat, a = x := ⟨a.toNat, by omega⟩
      obtain ⟨y, rfl⟩ : ∃ y : Nat, b = y := ⟨b.toNat, by omega⟩
      refine ⟨x, (wru64 (by omega)).symm, y, (wru64 (by omega)).symm, k_Mul64 (by omega) (by omega) ?_⟩
      have hd := Nat.div_add_mod (x * y) 18446744073709551616
      have hm := Nat.mod_lt (x * y) (by decide : 0 < 18446744073709551616)
      refine ⟨fun j w2 => w2 = w' ∧ j = decide ((9223372036854775807 : Int) < ((x * y : Nat) : Int)), ?_, fun h1 => ⟨rfl, ?_⟩, fun h1 => ⟨rfl, ?_⟩⟩
      · rintro j w2 ⟨rfl, rfl⟩
        refine ⟨fun hj => ?_, fun hj => ?_⟩
        · have hj := of_decide_eq_true hj
          rw [mulS_no (by rw [← Int.natCast_mul]; omega)] at h; exact h
        · have hj := of_decide_eq_false hj
          rw [mulS_ok (by rw [← Int.natCast_mul]; omega), ← Int.natCast_mul] at h
          have e0 : x * y / 18446744073709551616 = 0 := Nat.div_eq_of_lt (by omega)
          exact ⟨_, rfl, by rw [wr64 (by omega), show x * y % 18446744073709551616 = x * y by omega]; exact h⟩
      · symm; rw [decide_eq_true_eq]; omega
      · have e0 : x * y / 18446744073709551616 = 0 := by omega
        exact decide_eq_decide.2 (by omega)
  · rw [decide_eq_true_eq] at h1
    rw [← decide_not]
    exact decide_eq_decide.2 (by omega)
  · rw [decide_eq_false_iff_not] at h1; symm; rw [decide_eq_true_eq]; omega
end
end Go.Proofs.Ytchjcjocihckpaa.G
