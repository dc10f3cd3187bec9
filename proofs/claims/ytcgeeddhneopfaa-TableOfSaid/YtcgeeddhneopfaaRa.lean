/- The arguments opened: a slice of texts, as rows. -/
import Derived.SliceStrings
import Derived.Lib.SmallJoins
import Derived.Carry
import Derived.ProofKit
import Derived.OpenShut
import Derived.ShutString
import Derived.ChangeOld
import Derived.SizedLaws
import Derived.WalkKit
import Derived.Test.YtcgeeddhneopfaaPa
namespace Go.Proofs.Ytcgeeddhneopfaa.G
open Go Go.RowKit Go.ChangeShapes Go.WideShapes
theorem spot_none {W : World} {a : Addr} {v : Value} (h : W.cell? a = some v) : a = ⟨a.block, a.off, none⟩ := by
  rcases a with ⟨b, o, _ | s⟩
  · rfl
  · unfold World.cell? at h
    split at h
    · simp at h
    · cases h
theorem add_off (b o j : Nat) : (⟨b, o, none⟩ : Addr).add j = ⟨b, o + j, none⟩ := add_at b o j
theorem rows_strings {H : Type} {enc : TypeId × Value → H} {P : Program} {W : World} {t e : TypeId} {a : Option Addr} {len cap : Nat} {d : DataW H} {p : List MemPlace} (ht : P.underlying t = some (.slice e)) (he : P.underlying e = some .string) (hc : P.cellsOf e = 1)
    (h : DataW.Trod enc P W 0 (fun _ => true) true t (.slice a len cap) d p) : ∃ xs : List BA, Rows W 1 strE ⟨a, len, cap⟩ xs ∧ ∀ x ∈ xs, x.size ≤ maxLen := by
  obtain ⟨fuel, hf⟩ := h
  rcases open_strings ht he hc hf with ⟨hcs, _⟩ | ⟨x, l, c, ss, hcs, _, hl, hm, hz, _, hcell, hsz⟩
  · simp [Value.cells] at hcs
    obtain ⟨rfl, rfl, rfl⟩ := hcs
    exact ⟨[], Rows.nil, by simp⟩
  · simp [Value.cells] at hcs
    obtain ⟨rfl, rfl, rfl⟩ := hcs
    have hz : ss.length = cap := by simpa using hz
    have hmm : maxLen = 9223372036854775807 := rfl
    have key : 0 < cap → x = ⟨x.block, x.off, none⟩ := fun h0 => by
      have := hcell 0 (by omega)
      rw [show x.add 0 = x from rfl] at this
      exact spot_none this
    refine ⟨ss.take len, ⟨by simp; omega, by show len ≤ _; omega, hl, fun hne => ?_, fun b o e i hi => ?_⟩, fun y hy => hsz y (List.mem_of_mem_take hy)⟩
    · have : 0 < cap := by
        rcases Nat.eq_zero_or_pos len with h | h
        · subst h; simp at hne
        · omega
      exact ⟨x.block, x.off, congrArg some (key this)⟩
    · simp only [List.length_take] at hi
      cases e
      have := hcell i (by omega)
      rw [add_off] at this
      rw [Nat.mul_one, List.getElem_take]
      refine ⟨?_, trivial⟩
      rw [this, List.getD_eq_getElem?_getD, List.getElem?_eq_getElem (by omega)]; rfl
end Go.Proofs.Ytcgeeddhneopfaa.G
