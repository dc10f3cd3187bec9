/- Contracts: sums of products, whatever the numbers are. -/
import Derived.Test.YtchjcjocihckpaaHgC
namespace Go.Proofs.Ytchjcjocihckpaa.G
open Go Go.RowKit
def sumF : Int → List Int → Int × Bool
  | acc, [] => (acc, true)
  | acc, x :: l => if (addS acc x).2 then sumF (addS acc x).1 l else (0, false)
/-- The sum of the products of pairs; or none. -/
def dotF : Int → List (Int × Int) → Int × Bool
  | acc, [] => (acc, true)
  | acc, q :: l => if (mulS q.1 q.2).2 then (if (addS acc (mulS q.1 q.2).1).2 then dotF (addS acc (mulS q.1 q.2).1).1 l else (0, false)) else (0, false)
theorem dotF_eq : ∀ (l : List (Int × Int)) (acc : Int), dotF acc l = if (l.all fun q => (mulS q.1 q.2).2) then sumF acc (l.map fun q => (mulS q.1 q.2).1) else (0, false)
  | [], acc => rfl
  | q :: l, acc => by
    rw [dotF, List.all_cons, List.map_cons, sumF]
    cases h1 : (mulS q.1 q.2).2 with
    | false => simp
    | true =>
      cases h2 : (addS acc (mulS q.1 q.2).1).2 with
      | false => simp
      | true => simp only [if_true, Bool.true_and]; exact dotF_eq l _
theorem addS_bd {a b : Int} : I64 (addS a b).1 := by
  unfold addS; split
  · exact ⟨by simp, by simp⟩
  · exact ⟨by simp only; omega, by simp only; omega⟩
theorem mulS_bd {a b : Int} : I64 (mulS a b).1 := by
  unfold mulS; split
  · exact ⟨by simp, by simp⟩
  · rename_i h
    simp only [not_or, Int.not_lt] at h
    have := Int.mul_nonneg h.1 h.2.1
    exact ⟨by simp only; omega, by simp only; omega⟩
section
variable {w : World}
theorem k_checked_SumF {s : Sl} {l : List Int} {R : Int → Bool → World → Prop} (hx : Rows w 1 intE s l) (hi : ∀ x ∈ l, I64 x) (h : R (sumF 0 l).1 (sumF 0 l).2 w) :
    Calls PP n_checked_Sum #[s.v] w fun e w' => ∃ (r : Int) (q : Bool), e = .returned (.tuple #[.int .i64 r, .bool q]) ∧ R r q w' := by
  refine vc_checked_Sum ?_
  unfold VC_checked_Sum
  have l1 := hx.len
  have l3 := hx.lim
  refine ⟨fun acc i W => ∃ k : Nat, i = k ∧ k ≤ l.length ∧ W = w ∧ I64 acc ∧ sumF acc (l.drop k) = sumF 0 l, fun _ i _ => (l.length - i).toNat, ⟨0, rfl, by omega, rfl, ⟨by omega, by omega⟩, rfl⟩, ?_⟩
  rintro acc _ W ⟨k, rfl, hk, rfl, ha, hs⟩
  refine ⟨fun hl => ?_, fun hl => ?_⟩
  · obtain ⟨b, o, z, hb, hz, hc⟩ := hx.int (i := k) (by omega)
    have hd : l.drop k = z :: l.drop (k + 1) := by
      obtain ⟨hi', e⟩ := List.getElem?_eq_some_iff.1 hz
      rw [List.drop_eq_getElem_cons hi', e]
    rw [hd, sumF] at hs
    refine ⟨k, rfl, by omega, b, o, hb, z, hc, k_checked_Add ha (hi z (gm hz)) ⟨fun h1 => ⟨_, rfl, ⟨k + 1, by rw [wr64 (by omega)]; simp, by omega, rfl, addS_bd, by rw [if_pos h1] at hs; exact hs⟩, by rw [wr64 (by omega)]; dsimp only; omega⟩, fun h1 => ?_⟩⟩
    rw [if_neg (by rw [h1]; decide)] at hs
    rw [← hs] at h; exact h
  · rw [List.drop_eq_nil_of_le (by omega)] at hs
    rw [← hs] at h; exact h
theorem k_checked_DotF {s t : Sl} {a b : List Int} {R : Int → Bool → World → Prop} (hx : Rows w 1 intE s a) (hy : Rows w 1 intE t b) (hab : a.length = b.length) (hlen : a.length ≤ 1099511627776) (ha : ∀ x ∈ a, I64 x) (hb : ∀ x ∈ b, I64 x)
    (h : ∀ w', Ext w w' → R (dotF 0 (a.zip b)).1 (dotF 0 (a.zip b)).2 w') :
    Calls PP n_checked_Dot #[s.v, t.v] w fun e w' => ∃ (r : Int) (q : Bool), e = .returned (.tuple #[.int .i64 r, .bool q]) ∧ R r q w' := by
  refine vc_checked_Dot ?_
  unfold VC_checked_Dot
  have l1 := hx.len
  have l2 := hy.len
  have hmax : maxLen = 9223372036854775807 := rfl
  have hzl : (a.zip b).length = a.length := by rw [List.length_zip]; omega
  refine ⟨fun hn => absurd (by rw [l1, l2, hab]) hn, fun _ => ?_⟩
  refine ⟨fun r i W => ∃ k : Nat, i = k ∧ k ≤ a.length ∧ Ext w W ∧ OwnL W t_int 1 intE r (((a.zip b).take k).map fun q => (mulS q.1 q.2).1) ∧ (((a.zip b).take k).all fun q => (mulS q.1 q.2).2) = true ∧ (∀ c, r.blk = some c → w.heap.size ≤ c), fun _ i _ => (a.length - i).toNat,
    ⟨0, rfl, by omega, Chg.refl w, OwnL.nil, rfl, fun c hc => (nomatch hc)⟩, ?_⟩
  rintro r _ w1 ⟨k, rfl, hk, x1, ho, hok, hf⟩
  have hn := ho.len intE_len (by decide)
  rw [List.length_map, List.length_take, hzl] at hn
  refine ⟨fun hl => ?_, fun hl => ?_⟩
  · obtain ⟨g, o, u, hg, hu, hc⟩ := (hx.ext x1).int (i := k) (by omega)
    obtain ⟨g', o', v, hg', hv, hc'⟩ := (hy.ext x1).int (i := k) (by omega)
    have hz : (a.zip b)[k]? = some (u, v) := by rw [List.getElem?_zip_eq_some]; exact ⟨hu, hv⟩
    refine ⟨k, rfl, by omega, g, o, hg, u, hc, by omega, g', o', hg', v, hc', fun w2 x2 => k_checked_Mul (ha u (gm hu)) (hb v (gm hv)) ⟨x2.cell hc, x2.cell hc', fun h1 => ⟨_, ho.ext x2, by omega, fun r2 w3 hA => ⟨_, rfl, ⟨k + 1, by rw [wr64 (by omega)]; simp, by omega, Chg.of_new (x1.tr x2) hA.chg hf, ?_, ?_, ?_⟩, by rw [wr64 (by omega)]; dsimp only; omega⟩⟩, fun h1 => ?_⟩⟩
    · rw [tk hz, List.map_append]; exact hA.ownL
    · rw [tk hz, List.all_append, hok]; simpa using h1
    · intro c hc
      rcases hA.lt hc with h | h
      · exact hf c h
      · exact Nat.le_trans (x1.tr x2).size h
    · have := h w2 (x1.tr x2)
      rw [dotF_eq, if_neg] at this
      · exact this
      · rw [Bool.not_eq_true, List.all_eq_false]
        exact ⟨(u, v), gm hz, by rw [h1]; decide⟩
  · rw [List.take_of_length_le (by omega)] at ho hok
    refine k_checked_SumF (ho.rows intE_len (by decide)) (fun x hx => ?_) ?_
    · obtain ⟨q, _, rfl⟩ := List.mem_map.1 hx; exact mulS_bd
    · have := h w1 x1
      rw [dotF_eq, if_pos hok] at this; exact this
theorem k_ref06_Mul {a b : Int} {R : Int → Bool → World → Prop} (ha : I64 a) (hb : I64 b) (h : R (mulS a b).1 (mulS a b).2 w) :
    Calls PP n_ref06_Mul #[.int .i64 a, .int .i64 b] w fun e w' => ∃ (r : Int) (q : Bool), e = .returned (.tuple #[.int .i64 r, .bool q]) ∧ R r q w' := by
  refine vc_ref06_Mul ?_
  unfold VC_ref06_Mul
  refine ⟨fun j w' => w' = w ∧ j = decide (a < 0 ∨ b < 0), ?_, fun h1 => ⟨rfl, ?_⟩, fun h1 => ⟨rfl, ?_⟩⟩
  · rintro j w' ⟨rfl, hj⟩
    refine ⟨fun h1 => ?_, fun h1 => ?_⟩
    · have hj := of_decide_eq_true (hj.symm.trans h1)
      rw [mulS_no (by omega)] at h; exact h
    · have hj := of_decide_eq_false (hj.symm.trans h1)
      refine ⟨fun j w2 => w2 = w' ∧ j = decide (9223372036854775807 < a * b), ?_, fun hb0 => ?_, fun hb0 => ⟨rfl, ?_⟩⟩
      · rintro j w2 ⟨rfl, rfl⟩
        refine ⟨fun h2 => ?_, fun h2 => ?_⟩
        · have h2 := of_decide_eq_true h2
          rw [mulS_no (by omega)] at h; exact h
        · have h2 := of_decide_eq_false h2
          have := Int.mul_nonneg (show 0 ≤ a by omega) (show 0 ≤ b by omega)
          refine ⟨_, rfl, ?_⟩
          rw [wr64 (by omega)]
          rw [mulS_ok (by omega)] at h; exact h
      · have e0 : Int.tdiv 9223372036854775807 b = 9223372036854775807 / b := Int.tdiv_eq_ediv_of_nonneg (by decide)
        have h1' : 0 ≤ (9223372036854775807 : Int) / b := Int.ediv_nonneg (by decide) (by omega)
        have h2' : (9223372036854775807 : Int) / b ≤ 9223372036854775807 := Int.ediv_le_self _ (by decide)
        refine ⟨by omega, _, rfl, rfl, ?_⟩
        rw [e0, wr64 (by omega)]
        have := @Int.ediv_lt_iff_lt_mul 9223372036854775807 a b hb0
        exact decide_eq_decide.2 this
      · have : b = 0 := by omega
        subst this
        rw [decide_eq_false]; omega
  · rw [decide_eq_true]; exact .inl h1
  · have e : (a < 0 ∨ b < 0) ↔ b < 0 := ⟨fun h => h.elim (fun h => absurd h h1) id, .inr⟩
    exact (decide_eq_decide.2 e).symm
theorem k_ref06_Dot {s t : Sl} {a b : List Int} {R : Int → Bool → World → Prop} (hx : Rows w 1 intE s a) (hy : Rows w 1 intE t b) (hab : a.length = b.length) (hlen : a.length ≤ 1099511627776) (ha : ∀ x ∈ a, I64 x) (hb : ∀ x ∈ b, I64 x)
    (h : ∀ w', Ext w w' → R (dotF 0 (a.zip b)).1 (dotF 0 (a.zip b)).2 w') :
    Calls PP n_ref06_Dot #[s.v, t.v] w fun e w' => ∃ (r : Int) (q : Bool), e = .returned (.tuple #[.int .i64 r, .bool q]) ∧ R r q w' := by
  refine vc_ref06_Dot ?_
  unfold VC_ref06_Dot
  have l1 := hx.len
  have l2 := hy.len
  have hzl : (a.zip b).length = a.length := by rw [List.length_zip]; omega
  refine ⟨fun hn => absurd (by rw [l1, l2, hab]) hn, fun _ => ?_⟩
  refine ⟨fun acc i W => ∃ k : Nat, i = k ∧ k ≤ a.length ∧ Ext w W ∧ I64 acc ∧ dotF acc ((a.zip b).drop k) = dotF 0 (a.zip b), fun _ i _ => (a.length - i).toNat, ⟨0, rfl, by omega, Chg.refl w, ⟨by omega, by omega⟩, rfl⟩, ?_⟩
  rintro acc _ w1 ⟨k, rfl, hk, x1, hacc, hd⟩
  refine ⟨fun hl => ?_, fun hl => ?_⟩
  · obtain ⟨g, o, u, hg, hu, hc⟩ := (hx.ext x1).int (i := k) (by omega)
    obtain ⟨g', o', v, hg', hv, hc'⟩ := (hy.ext x1).int (i := k) (by omega)
    have hz : (a.zip b)[k]? = some (u, v) := by rw [List.getElem?_zip_eq_some]; exact ⟨hu, hv⟩
    have hdr : (a.zip b).drop k = (u, v) :: (a.zip b).drop (k + 1) := by
      obtain ⟨hi', e⟩ := List.getElem?_eq_some_iff.1 hz
      rw [List.drop_eq_getElem_cons hi', e]
    rw [hdr, dotF] at hd
    refine ⟨k, rfl, by omega, g, o, hg, u, hc, by omega, g', o', hg', v, hc', fun w2 x2 => k_ref06_Mul (ha u (gm hu)) (hb v (gm hv)) ⟨x2.cell hc, x2.cell hc', fun h1 => ?_, fun h1 => ?_⟩⟩
    · rw [if_pos h1] at hd
      refine k_ref06_Add hacc mulS_bd ⟨fun h2 => ⟨_, rfl, ⟨k + 1, by rw [wr64 (by omega)]; simp, by omega, x1.tr x2, addS_bd, by rw [if_pos h2] at hd; exact hd⟩, by rw [wr64 (by omega)]; dsimp only; omega⟩, fun h2 => ?_⟩
      rw [if_neg (by rw [h2]; decide)] at hd
      have := h w2 (x1.tr x2)
      rw [← hd] at this; exact this
    · rw [if_neg (by rw [h1]; decide)] at hd
      have := h w2 (x1.tr x2)
      rw [← hd] at this; exact this
  · rw [List.drop_eq_nil_of_le (by omega)] at hd
    have := h w1 x1
    rw [← hd] at this; exact this
end
end Go.Proofs.Ytchjcjocihckpaa.G
