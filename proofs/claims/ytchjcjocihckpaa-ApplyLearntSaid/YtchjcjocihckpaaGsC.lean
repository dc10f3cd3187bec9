/- The library's sort by a function, at structs: what a row of one's own holds then. -/
import Derived.Test.YtchjcjocihckpaaVC
import Derived.Test.YtchjcjocihckpaaShelfC
import Derived.Test.YtchjcjocihckpaaPmC
import Derived.Shelf.SlSortCmp.NoneTotal
import Derived.WalkKit
import Derived.Lib.Small
namespace Go.Proofs.Ytchjcjocihckpaa.G
open Go Go.RowKit Go.Shelf Go.Lib Go.Sort
section
variable {α : Type} [Inhabited α] {e k : Nat} {E : α → List Value} {s : Sl} {L : List α} {w : World}
theorem flatK_eq (hk : ∀ x, (E x).length = k) (hk0 : 0 < k) (d : Array α) : (flatK E k d).toList = d.toList.flatMap E := by
  apply List.ext_getElem?
  intro t
  by_cases h : t < d.size * k
  · have h1 : t / k < d.toList.length := by rw [Array.length_toList]; exact Nat.div_lt_of_lt_mul (by rw [Nat.mul_comm]; exact h)
    have h2 := flat_at hk d.toList (t / k) h1 (t % k) (Nat.mod_lt _ hk0)
    rw [Nat.div_add_mod'] at h2
    rw [h2]
    have h3 : t % k < (E d.toList[t / k]).length := by rw [hk]; exact Nat.mod_lt _ hk0
    rw [List.getElem?_eq_getElem h3]
    have h4 : (flatK E k d)[t]! = (E d[t / k]!)[t % k]! := get_flatK E k d t h
    have h5 : d[t / k]! = d.toList[t / k] := by rw [getElem!_pos d (t / k) (by simpa using h1)]; simp
    rw [h5, getElem!_pos (E d.toList[t / k]) (t % k) h3] at h4
    rw [← h4, Array.getElem?_toList, Array.getElem?_eq_getElem (by simpa using h), getElem!_pos (flatK E k d) t (by simpa using h)]
  · have h1 : (flatK E k d).toList.length ≤ t := by simp; omega
    have h2 : (d.toList.flatMap E).length ≤ t := by rw [flat_len hk, Array.length_toList]; omega
    rw [List.getElem?_eq_none h1, List.getElem?_eq_none h2]
theorem holds_own (hk : ∀ x, (E x).length = k) (hk0 : 0 < k) (ho : OwnL w e k E s L) {g : Nat} (hb : s.b = some ⟨g, 0, none⟩) : HoldsK E k w g 0 L.toArray := by
  obtain ⟨g', cur, h1, h2, h3, h4, h5, h6⟩ := ho.blk (by rw [hb]; simp)
  rw [hb] at h1; cases h1
  have hn := ho.len hk hk0
  intro j hj
  have hF := flatK_eq (E := E) hk hk0 L.toArray
  have hj2 : j < s.n * k := by rw [hn]; simpa using hj
  have h7 : cur[j]? = some (flatK E k L.toArray)[j]! := by
    rw [getElem!_pos (flatK E k L.toArray) j hj, ← Array.getElem?_toList, ← List.getElem?_take_of_lt hj2, h6]
    rw [show L.flatMap E = (flatK E k L.toArray).toList from hF.symm, Array.getElem?_toList, Array.getElem?_eq_getElem hj]
  rw [Nat.zero_add]
  exact ⟨cell_blk h2 h7, frz_blk h2 j⟩
theorem sort_own (hk : ∀ x, (E x).length = k) (hk0 : 0 < k) (ho : OwnL w e k E s L) {g : Nat} (hb : s.b = some ⟨g, 0, none⟩) (d' : Array α) (hs : d'.size = L.length) (m : Nat) (os : Array Obj) :
    Chg (fun c => s.blk = some c) w (sortWorldK E k w g 0 m d' os) ∧ OwnL (sortWorldK E k w g 0 m d' os) e k E s d'.toList := by
  have hbk : s.blk = some g := by simp [Sl.blk, hb]
  have hn := ho.len hk hk0
  obtain ⟨h0, ⟨h2, h3⟩ | ⟨g', cap, cur, h2, h3, h4, h5, h6, h7, h8⟩⟩ := ho
  · rcases s with ⟨b, n, c⟩; simp only [Sl.v, Value.slice.injEq] at h2; simp only at hb; rw [h2.1] at hb; cases hb
  have e1 : s.b = some ⟨g', 0, none⟩ ∧ s.c = cap := by rcases s with ⟨b, n, c⟩; simp only [Sl.v, Value.slice.injEq] at h2; exact ⟨h2.1, h2.2.2⟩
  rw [hb] at e1; obtain ⟨e1, e2⟩ := e1; cases e1
  have hF := flatK_eq (E := E) hk hk0 d'
  have hlt := lt_of_blk h4
  have hcs : s.n * k ≤ cur.size := by rw [h7]; exact Nat.mul_le_mul_right _ h5
  have heap : ∀ b, b < w.heap.size → (sortWorldK E k w g 0 m d' os).heap[b]? = (w.heap.modify g (onCells (putCells id 0 (flatK E k d'))))[b]? := fun b hb => by
    show ((w.heap.modify g (onCells (putCells id 0 (flatK E k d')))) ++ os)[b]? = _
    rw [Array.getElem?_append_left (by simpa using hb)]
  refine ⟨⟨rfl, rfl, rfl, ?_, fun b hb hne => ?_⟩, by rw [flat_len hk, Array.length_toList, hs, ← hn], .inr ⟨g, cap, putCells id 0 (flatK E k d') cur, h2, h3, ?_, h5, h6, ?_, ?_⟩⟩
  · show w.heap.size ≤ ((w.heap.modify g _) ++ os).size
    simp
  · rw [heap b hb, Array.getElem?_modify, if_neg fun e => hne (by rw [hbk, e])]
  · rw [heap g hlt, Array.getElem?_modify, if_pos rfl, h4]; rfl
  · unfold putCells; rw [Array.size_mapIdx]; exact h7
  · rw [← hF]
    apply List.ext_getElem?
    intro t
    have hsz : (flatK E k d').size = s.n * k := by rw [size_flatK, hs, hn]
    by_cases ht : t < s.n * k
    · rw [List.getElem?_take_of_lt ht]
      unfold putCells
      have ht2 : t < cur.size := by omega
      simp only [Array.getElem?_toList, Array.getElem?_mapIdx, Array.getElem?_eq_getElem ht2, Option.map_some]
      rw [if_pos (by rw [hsz]; omega), Array.getElem?_eq_getElem (by rw [hsz]; exact ht), Nat.sub_zero, getElem!_pos (flatK E k d') t (by rw [hsz]; exact ht)]; rfl
    · rw [List.getElem?_eq_none (by rw [List.length_take]; exact Nat.le_trans (Nat.min_le_left _ _) (Nat.le_of_not_lt ht)), List.getElem?_eq_none (by rw [Array.length_toList, hsz]; exact Nat.le_of_not_lt ht)]
end
/-! The comparing functions. -/
theorem q_isNaN (x : Int) (w : World) : Calls PP n_cmp_isNaN_int #[.int .i64 x] w fun e w' => e = .returned (.bool false) ∧ w' = w := by
  refine (vc_cmp_isNaN_int (a0 := x) (R := fun r w' => r = false ∧ w' = w) ?_).mono ?_
  · unfold VC_cmp_isNaN_int; simp
  · rintro e w' ⟨r, rfl, rfl, rfl⟩; exact ⟨rfl, rfl⟩
theorem q_Compare (x y : Int) (w : World) : Calls PP n_cmp_Compare_int #[.int .i64 x, .int .i64 y] w fun e w' => e = .returned (.int .i64 (Lib.compareInt x y)) ∧ w' = w := by
  refine (vc_cmp_Compare_int (a0 := x) (a1 := y) (R := fun r w' => r = Lib.compareInt x y ∧ w' = w) ?_).mono ?_
  · unfold VC_cmp_Compare_int
    refine (q_isNaN x w).mono ?_
    rintro e w' ⟨rfl, rfl⟩
    refine ⟨_, rfl, (q_isNaN y w').mono ?_⟩
    rintro e w2 ⟨rfl, rfl⟩
    refine ⟨_, rfl, (nomatch ·), fun _ => ⟨(nomatch ·), fun _ => ?_⟩⟩
    unfold Lib.compareInt
    refine ⟨fun h => ⟨by rw [if_pos h], rfl⟩, fun h => ⟨fun h2 => ⟨by rw [if_neg h, if_pos h2], rfl⟩, fun h2 => ⟨by rw [if_neg h, if_neg h2], rfl⟩⟩⟩
  · rintro e w' ⟨r, rfl, rfl, rfl⟩; exact ⟨rfl, rfl⟩
def or2 (x y : Int) : Int := if x ≠ 0 then x else y
theorem q_Or (x y : Int) (w : World) {b : Nat} {t : TypeId} (hb : w.heap[b]? = some (.cells #[.int .i64 x, .int .i64 y] t (0, 0))) : Calls PP n_cmp_Or_int #[.slice (some ⟨b, 0, none⟩) 2 2] w fun e w' => e = .returned (.int .i64 (or2 x y)) ∧ w' = w := by
  refine (vc_cmp_Or_int (a0 := ⟨some ⟨b, 0, none⟩, 2, 2⟩) (R := fun r w' => r = or2 x y ∧ w' = w) ?_).mono ?_
  · unfold VC_cmp_Or_int
    refine ⟨fun l w' => w' = w ∧ ∃ k : Nat, l = k ∧ k ≤ 2 ∧ (1 ≤ k → x = 0) ∧ (2 ≤ k → y = 0), fun l _ => (2 - l).toNat, ⟨rfl, 0, rfl, by omega, by omega, by omega⟩, ?_⟩
    rintro _ _ ⟨rfl, k, rfl, hk, h1, h2⟩
    refine ⟨fun hl => ?_, fun hl => ?_⟩
    · have hl : k < 2 := by have : ((k : Nat) : Int) < ((2 : Nat) : Int) := hl; omega
      have : k = 0 ∨ k = 1 := by omega
      rcases this with rfl | rfl
      · refine ⟨0, rfl, by simp, b, 0, rfl, x, cell_blk hb rfl, fun hx => ⟨by unfold or2; rw [if_pos hx], rfl⟩, fun hx => ⟨1, by simp [IntKind.wrap_i64], ⟨rfl, 1, rfl, by omega, fun _ => Decidable.not_not.1 hx, by omega⟩, by simp⟩⟩
      · have hx := h1 (by omega)
        refine ⟨1, rfl, by simp, b, 0, rfl, y, cell_blk hb rfl, fun hy => ⟨by unfold or2; rw [if_neg (by simp [hx])], rfl⟩, fun hy => ⟨2, by simp [IntKind.wrap_i64], ⟨rfl, 2, rfl, by omega, fun _ => hx, fun _ => Decidable.not_not.1 hy⟩, by simp⟩⟩
    · have hl : ¬ k < 2 := fun h => hl (show ((k : Nat) : Int) < ((2 : Nat) : Int) by omega)
      exact ⟨by unfold or2; rw [if_neg (by simp [h1 (by omega)]), h2 (by omega)], rfl⟩
  · rintro e w' ⟨r, rfl, rfl, rfl⟩; exact ⟨rfl, rfl⟩
/-- The order of pairs. -/
def plt (p q : Pr) : Prop := p.1 < q.1 ∨ (p.1 = q.1 ∧ p.2 < q.2)
def cfP (x y : Pr) : Int := or2 (Lib.compareInt x.1 y.1) (Lib.compareInt x.2 y.2)
theorem cfP_lt (x y : Pr) : cfP x y < 0 ↔ plt x y := by
  unfold cfP or2 Lib.compareInt plt
  by_cases h1 : x.1 < y.1
  · simp [h1]
  · by_cases h2 : x.1 > y.1
    · have : ¬ x.1 = y.1 := by omega
      simp [h1, h2, this]
    · have : x.1 = y.1 := by omega
      simp only [h1, h2, this, if_false, false_or, true_and]
      by_cases h3 : x.2 < y.2
      · simp [h3]
      · by_cases h4 : x.2 > y.2 <;> simp [h3, h4]
theorem swoP {β : Type} (f : β → Pr) : SWO (ltOf fun x y : β => cfP (f x) (f y)) where
  irrefl x := by unfold ltOf; rw [decide_eq_false]; rw [cfP_lt]; unfold plt; omega
  trans x y z h1 h2 := by
    unfold ltOf at *; simp only [decide_eq_true_eq, cfP_lt] at *; unfold plt at *; omega
  ntrans x y z h1 h2 := by
    unfold ltOf at *; simp only [decide_eq_false_iff_not, cfP_lt] at *; unfold plt at *; omega
end Go.Proofs.Ytchjcjocihckpaa.G
