/- The arguments opened: slices of texts and of structs of two cells, as rows. -/
import Derived.SliceStrings
import Derived.ChangeSlices
import Derived.Lib.SmallJoins
import Derived.Carry
import Derived.ProofKit
import Derived.OpenShut
import Derived.ShutString
import Derived.ChangeOld
import Derived.SizedLaws
import Derived.WalkKit
import Derived.Deep.Slices
import Derived.Deep.Fields
import Derived.ChangeSame
import Derived.Test.YtchjcjocihckpaaPmC
namespace Go.Proofs.Ytchjcjocihckpaa.G
open Go Go.RowKit Go.ChangeShapes Go.WideShapes
theorem wf_u8 {n : Int} (h : (Lit.int .u8 n).wf = true) : 0 ≤ n ∧ n < 256 := by
  simp only [Lit.wf, Bool.and_eq_true, decide_eq_true_eq] at h
  have e1 : IntKind.u8.min = 0 := by decide
  have e2 : IntKind.u8.max = 255 := by decide
  omega
theorem wf_i64 {n : Int} (h : (Lit.int .i64 n).wf = true) : -9223372036854775808 ≤ n ∧ n < 9223372036854775808 := by
  simp only [Lit.wf, Bool.and_eq_true, decide_eq_true_eq] at h
  have e1 : IntKind.i64.min = -9223372036854775808 := by decide
  have e2 : IntKind.i64.max = 9223372036854775807 := by decide
  omega
theorem spot_none {W : World} {a : Addr} {v : Value} (h : W.cell? a = some v) : a = ⟨a.block, a.off, none⟩ := by
  rcases a with ⟨b, o, _ | s⟩
  · rfl
  · unfold World.cell? at h
    split at h
    · simp at h
    · cases h
theorem add_off (b o j : Nat) : (⟨b, o, none⟩ : Addr).add j = ⟨b, o + j, none⟩ := add_at b o j
theorem rows_strings {H : Type} {enc : TypeId × Value → H} {P : Program} {W : World} {t e : TypeId} {a : Option Addr} {len cap : Nat} {d : DataW H} {p : List MemPlace} (ht : P.underlying t = some (.slice e)) (he : P.underlying e = some .string) (hc : P.cellsOf e = 1)
    (h : DataW.Trod enc P W 0 (fun _ => true) true t (.slice a len cap) d p) : ∃ xs : List BA, Rows W 1 strE ⟨a, len, cap⟩ xs ∧ ∀ x ∈ xs, x.size ≤ maxLen := by
  obtain ⟨fuel, hf⟩ := h
  rcases open_strings ht he hc hf with ⟨hcs, _⟩ | ⟨x, l, c, ss, hcs, _, hl, hm, hz, _, hcell, hsz⟩
  · simp [Value.cells] at hcs
    obtain ⟨rfl, rfl, rfl⟩ := hcs
    exact ⟨[], Rows.nil, by simp⟩
  · simp [Value.cells] at hcs
    obtain ⟨rfl, rfl, rfl⟩ := hcs
    have hz : ss.length = cap := by simpa using hz
    have hmm : maxLen = 9223372036854775807 := rfl
    have key : 0 < cap → x = ⟨x.block, x.off, none⟩ := fun h0 => by
      have := hcell 0 (by omega)
      rw [show x.add 0 = x from rfl] at this
      exact spot_none this
    refine ⟨ss.take len, ⟨by simp; omega, by show len ≤ _; omega, hl, fun hne => ?_, fun b o e i hi => ?_⟩, fun y hy => hsz y (List.mem_of_mem_take hy)⟩
    · have : 0 < cap := by
        rcases Nat.eq_zero_or_pos len with h | h
        · subst h; simp at hne
        · omega
      exact ⟨x.block, x.off, congrArg some (key this)⟩
    · simp only [List.length_take] at hi
      cases e
      have := hcell i (by omega)
      rw [add_off] at this
      rw [Nat.mul_one, List.getElem_take]
      refine ⟨?_, trivial⟩
      rw [this, List.getD_eq_getElem?_getD, List.getElem?_eq_getElem (by omega)]; rfl
theorem rows_ints {H : Type} {enc : TypeId × Value → H} {P : Program} {W : World} {t e : TypeId} {a : Option Addr} {len cap : Nat} {d : DataW H} {p : List MemPlace} (ht : P.underlying t = some (.slice e)) (he : P.underlying e = some (.int .i64)) (hc : P.cellsOf e = 1)
    (h : DataW.Trod enc P W 0 (fun _ => true) true t (.slice a len cap) d p) : ∃ xs : List Int, Rows W 1 intE ⟨a, len, cap⟩ xs ∧ ∀ x ∈ xs, -9223372036854775808 ≤ x ∧ x ≤ 9223372036854775807 := by
  obtain ⟨fuel, hf⟩ := h
  rcases open_ints ht he hc hf with ⟨hcs, _⟩ | ⟨x, l, c, ss, hcs, _, hl, hm, hz, _, hcell, hsz⟩
  · simp [Value.cells] at hcs
    obtain ⟨rfl, rfl, rfl⟩ := hcs
    exact ⟨[], Rows.nil, by simp⟩
  · simp [Value.cells] at hcs
    obtain ⟨rfl, rfl, rfl⟩ := hcs
    have hz : ss.length = cap := by simpa using hz
    have hmm : maxLen = 9223372036854775807 := rfl
    have key : 0 < cap → x = ⟨x.block, x.off, none⟩ := fun h0 => by
      have := hcell 0 (by omega)
      rw [show x.add 0 = x from rfl] at this
      exact spot_none this
    refine ⟨ss.take len, ⟨by simp; omega, by show len ≤ _; omega, hl, fun hne => ?_, fun b o e i hi => ?_⟩, fun y hy => by have := wf_i64 (hsz y (List.mem_of_mem_take hy)); omega⟩
    · have : 0 < cap := by
        rcases Nat.eq_zero_or_pos len with h | h
        · subst h; simp at hne
        · omega
      exact ⟨x.block, x.off, congrArg some (key this)⟩
    · simp only [List.length_take] at hi
      cases e
      have := hcell i (by omega)
      rw [add_off] at this
      rw [Nat.mul_one, List.getElem_take]
      refine ⟨?_, trivial⟩
      rw [this, List.getD_eq_getElem?_getD, List.getElem?_eq_getElem (by omega)]; rfl
open Go.Deep in
theorem rows_pairs {α : Type} {H : Type} {enc : TypeId × Value → H} {P : Program} {W : World} {t e : TypeId} {f0 f1 : Field} {a : Option Addr} {len cap : Nat} {d : DataW H} {p : List MemPlace} (E : α → List Value) (Q : α → Prop) (V0 V1 : Value → Prop)
    (ht : P.underlying t = some (.slice e)) (he : P.underlying e = some (.struct #[f0, f1])) (hone : oneCellFields P #[f0, f1] = true) (hC : P.cellsOf e = 2)
    (h0 : ∀ n v y, DataW.trod enc P W 0 (fun _ => true) true n f0.type [v] = some y → V0 v) (h1 : ∀ n v y, DataW.trod enc P W 0 (fun _ => true) true n f1.type [v] = some y → V1 v) (mk : ∀ v0 v1, V0 v0 → V1 v1 → ∃ x, E x = [v0, v1] ∧ Q x)
    (h : DataW.Trod enc P W 0 (fun _ => true) true t (.slice a len cap) d p) : ∃ xs : List α, Rows W 2 E ⟨a, len, cap⟩ xs ∧ ∀ x ∈ xs, Q x := by
  obtain ⟨fuel, hf⟩ := h
  rcases open_slice ht hf with ⟨hcs, _⟩ | ⟨x, l, c, m, n, D, Pl, hcs, _, hl, hm, hmm, _, hi⟩
  · simp [Value.cells] at hcs
    obtain ⟨rfl, rfl, rfl⟩ := hcs
    exact ⟨[], Rows.nil, by simp⟩
  · simp [Value.cells] at hcs
    obtain ⟨rfl, rfl, rfl⟩ := hcs
    have hmm : m = cap := by simpa using hmm
    have hmx : maxLen = 9223372036854775807 := rfl
    have each : ∀ i, i < cap → ∃ y, W.cell? (x.add (i * 2)) = some ((E y).headD undef) ∧ W.cell? (x.add (i * 2 + 1)) = some ((E y).getD 1 undef) ∧ (E y).length = 2 ∧ Q y := by
      intro i hic
      obtain ⟨cs', hc, ht'⟩ := hi i (by omega)
      rw [hC] at hc
      obtain ⟨ys, n', hn', hy, hlen, hyl, hfl⟩ := DataW.trod_struct he ht'
      obtain ⟨_, hcl, hat⟩ := World.cells?_some hc
      match cs', hcl with
      | [u0, u1], _ =>
        obtain ⟨o0, k0⟩ := hone_of hone 0 f0 rfl
        obtain ⟨o1, k1⟩ := hone_of hone 1 f1 rfl
        have g0 := hfl 0 f0 rfl
        have g1 := hfl 1 f1 rfl
        rw [o0, k0] at g0
        rw [o1, k1] at g1
        have q0 : ∃ y, ys[0]? = some y := ⟨ys[0]'(by rw [hyl]; simp), List.getElem?_eq_getElem _⟩
        have q1 : ∃ y, ys[1]? = some y := ⟨ys[1]'(by rw [hyl]; simp), List.getElem?_eq_getElem _⟩
        obtain ⟨y0, q0⟩ := q0
        obtain ⟨y1, q1⟩ := q1
        rw [q0] at g0
        rw [q1] at g1
        obtain ⟨z, hz, hQ⟩ := mk u0 u1 (h0 _ u0 y0 (by simpa using g0)) (h1 _ u1 y1 (by simpa using g1))
        have c0 := hat (i := 0) (by decide)
        have c1 := hat (i := 1) (by decide)
        refine ⟨z, ?_, ?_, by rw [hz]; rfl, hQ⟩
        · rw [hz]; rw [Go.Deep.add_add] at c0; simpa using c0
        · rw [hz]; rw [Go.Deep.add_add] at c1; simpa using c1
    have hch : ∃ xs : List α, xs.length = cap ∧ ∀ i (h : i < xs.length), W.cell? (x.add (i * 2)) = some ((E xs[i]).headD undef) ∧ W.cell? (x.add (i * 2 + 1)) = some ((E xs[i]).getD 1 undef) ∧ (E xs[i]).length = 2 ∧ Q xs[i] := by
      clear hl hf
      have : ∀ k, k ≤ cap → ∃ xs : List α, xs.length = k ∧ ∀ i (h : i < xs.length), W.cell? (x.add (i * 2)) = some ((E xs[i]).headD undef) ∧ W.cell? (x.add (i * 2 + 1)) = some ((E xs[i]).getD 1 undef) ∧ (E xs[i]).length = 2 ∧ Q xs[i] := by
        intro k
        induction k with
        | zero => intro _; exact ⟨[], rfl, fun i h => absurd h (by simp)⟩
        | succ k ih =>
          intro hk
          obtain ⟨xs, h1, h2⟩ := ih (by omega)
          obtain ⟨y, hy⟩ := each k (by omega)
          refine ⟨xs ++ [y], by simp [h1], fun i hi => ?_⟩
          by_cases e : i < xs.length
          · rw [List.getElem_append_left e]; exact h2 i e
          · have : i = k := by simp at hi; omega
            subst this
            rw [List.getElem_append_right (by omega)]
            simpa [h1] using hy
      exact this cap (Nat.le_refl _)
    obtain ⟨xs, hxl, hx⟩ := hch
    refine ⟨xs.take len, ⟨by simp; omega, by show len ≤ _; omega, hl, fun hne => ?_, fun b o e i hi => ?_⟩, fun y hy => ?_⟩
    · have : 0 < cap := by
        rcases Nat.eq_zero_or_pos len with h | h
        · subst h; simp at hne
        · omega
      have := (hx 0 (by omega)).1
      exact ⟨x.block, x.off, congrArg some (spot_none (by simpa [Addr.add] using this))⟩
    · simp only [List.length_take] at hi
      cases e
      obtain ⟨c0, c1, c2, _⟩ := hx i (by omega)
      rw [add_off] at c0 c1
      rw [List.getElem_take]
      match hE : E xs[i], c2 with
      | [u0, u1], _ =>
        rw [hE] at c0 c1
        exact ⟨c0, c1, trivial⟩
    · obtain ⟨i, hi, rfl⟩ := List.mem_iff_getElem.1 (List.mem_of_mem_take hy)
      exact (hx i hi).2.2.2
open Go.Deep in
theorem rows_merges {H : Type} {enc : TypeId × Value → H} {P : Program} {W : World} {t e : TypeId} {f0 f1 : Field} {a : Option Addr} {len cap : Nat} {d : DataW H} {p : List MemPlace}
    (ht : P.underlying t = some (.slice e)) (he : P.underlying e = some (.struct #[f0, f1])) (h0 : P.underlying f0.type = some .string) (h1 : P.underlying f1.type = some .string) (hone : oneCellFields P #[f0, f1] = true) (hC : P.cellsOf e = 2)
    (h : DataW.Trod enc P W 0 (fun _ => true) true t (.slice a len cap) d p) : ∃ xs : List Mg, Rows W 2 mgE ⟨a, len, cap⟩ xs ∧ True := by
  obtain ⟨xs, hx⟩ := rows_pairs (α := Mg) mgE (fun _ => True) (fun v => ∃ s : ByteArray, v = .string s) (fun v => ∃ s : ByteArray, v = .string s) ht he hone hC
    (fun n v y hv => by obtain ⟨s, hs, _⟩ := DataW.trod_string h0 hv; exact ⟨s, by simpa using hs⟩) (fun n v y hv => by obtain ⟨s, hs, _⟩ := DataW.trod_string h1 hv; exact ⟨s, by simpa using hs⟩)
    (fun v0 v1 ⟨s, e0⟩ ⟨t, e1⟩ => ⟨(s, t), by rw [e0, e1]; rfl, trivial⟩) h
  exact ⟨xs, hx.1, trivial⟩
open Go.Deep in
theorem rows_words {H : Type} {enc : TypeId × Value → H} {P : Program} {W : World} {t e : TypeId} {f0 f1 : Field} {a : Option Addr} {len cap : Nat} {d : DataW H} {p : List MemPlace}
    (ht : P.underlying t = some (.slice e)) (he : P.underlying e = some (.struct #[f0, f1])) (h0 : P.underlying f0.type = some .string) (h1 : P.underlying f1.type = some (.int .i64)) (hone : oneCellFields P #[f0, f1] = true) (hC : P.cellsOf e = 2)
    (h : DataW.Trod enc P W 0 (fun _ => true) true t (.slice a len cap) d p) : ∃ xs : List Wd, Rows W 2 wdE ⟨a, len, cap⟩ xs ∧ ∀ d ∈ xs, -9223372036854775808 ≤ d.2 ∧ d.2 ≤ 9223372036854775807 := by
  obtain ⟨xs, hx⟩ := rows_pairs (α := Wd) wdE (fun d => -9223372036854775808 ≤ d.2 ∧ d.2 ≤ 9223372036854775807) (fun v => ∃ s : ByteArray, v = .string s) (fun v => ∃ z : Int, v = .int .i64 z ∧ (-9223372036854775808 ≤ z ∧ z ≤ 9223372036854775807)) ht he hone hC
    (fun n v y hv => by obtain ⟨s, hs, _⟩ := DataW.trod_string h0 hv; exact ⟨s, by simpa using hs⟩) (fun n v y hv => by obtain ⟨s, hs, _, hw⟩ := DataW.trod_int h1 hv; exact ⟨s, by simpa using hs, by have := wf_i64 hw; omega⟩)
    (fun v0 v1 ⟨s, e0⟩ ⟨t, e1, e2⟩ => ⟨(s, t), by rw [e0, e1]; rfl, e2⟩) h
  exact ⟨xs, hx⟩
end Go.Proofs.Ytchjcjocihckpaa.G
