/- Contracts: a table of words, by the counter and by the document's answer. -/
import Derived.Test.YtcgeeddhneopfaaHg
namespace Go.Proofs.Ytcgeeddhneopfaa.G
open Go Go.RowKit
/-- The sum of some numbers. -/
def sumZ (l : List Int) : Int := l.foldl (· + ·) 0
theorem sumZ_snoc (l : List Int) (a : Int) : sumZ (l ++ [a]) = sumZ l + a := by simp [sumZ, List.foldl_append]
theorem sumZ_pos {l : List Int} : (∀ x ∈ l, 0 ≤ x) → 0 ≤ sumZ l := by
  induction l using snoc_ind with
  | h0 => intro _; exact Int.le_refl _
  | h1 l a ih => intro h; rw [sumZ_snoc]; have := ih fun x hx => h x (List.mem_append_left _ hx); have := h a (by simp); omega
theorem sumZ_take {l : List Int} (h : ∀ x ∈ l, 0 ≤ x) (k : Nat) : sumZ (l.take k) ≤ sumZ l := by
  have e := List.take_append_drop k l
  have : ∀ m : List Int, (∀ x ∈ m, 0 ≤ x) → sumZ (l.take k) ≤ sumZ (l.take k ++ m) := by
    intro m
    induction m using snoc_ind with
    | h0 => intro _; simp
    | h1 m a ih => intro h; rw [← List.append_assoc, sumZ_snoc]; have := ih fun x hx => h x (List.mem_append_left _ hx); have := h a (by simp); omega
  have := this (l.drop k) fun x hx => h x (List.mem_of_mem_drop hx)
  rwa [e] at this
/-- How much a word weighs. -/
def wgt (x : Wd) : Int := x.2 * ((x.1.size - 1 : Nat) : Int)
section
variable {w w1 : World}
theorem k_checked_Sum {s : Sl} {l : List Int} {R : Int → Bool → World → Prop} (hx : Rows w 1 intE s l) (hp : ∀ x ∈ l, 0 ≤ x) (hs : sumZ l ≤ 9223372036854775807) (h : R (sumZ l) true w) :
    Calls PP n_checked_Sum #[s.v] w fun e w' => ∃ (r : Int) (q : Bool), e = .returned (.tuple #[.int .i64 r, .bool q]) ∧ R r q w' := by
  refine vc_checked_Sum ?_
  unfold VC_checked_Sum
  have l1 := hx.len
  have l3 := hx.lim
  refine ⟨fun t i w' => ∃ k : Nat, i = k ∧ k ≤ l.length ∧ w' = w ∧ t = sumZ (l.take k), fun _ i _ => (l.length - i).toNat, ⟨0, rfl, by omega, rfl, rfl⟩, ?_⟩
  rintro _ _ w' ⟨k, rfl, hk, rfl, rfl⟩
  refine ⟨fun hl => ?_, fun hl => ?_⟩
  · obtain ⟨b, o, a, hb, ha, hc⟩ := hx.int (i := k) (by omega)
    have e := tk ha
    have t1 := sumZ_take hp k
    have t2 := sumZ_take hp (k + 1)
    have p1 := sumZ_pos fun x hx => hp x (List.mem_of_mem_take (i := k) hx)
    have p2 := hp a (gm ha)
    rw [e, sumZ_snoc] at t2
    refine ⟨k, rfl, by omega, b, o, hb, a, hc, k_checked_Add ⟨by omega, by omega⟩ ⟨by omega, by omega⟩ ?_⟩
    rw [addS_ok ⟨p1, p2, by omega⟩]
    exact ⟨fun _ => ⟨k + 1, (wr64 (by omega)).symm, ⟨k + 1, by simp, by omega, rfl, by rw [e, sumZ_snoc]⟩, by dsimp only; omega⟩, fun h => nomatch h⟩
  · rw [List.take_of_length_le (by omega)]; exact h
theorem k_checked_Dot {s t : Sl} {a b : List Int} {R : Int → Bool → World → Prop} (hx : Rows w 1 intE s a) (hy : Rows w 1 intE t b) (hab : a.length = b.length) (hlen : a.length ≤ 1099511627776)
    (hp : ∀ x ∈ List.zipWith (· * ·) a b, 0 ≤ x ∧ x ≤ 9223372036854775807) (ha : ∀ x ∈ a, 0 ≤ x ∧ x ≤ 9223372036854775807) (hb : ∀ x ∈ b, 0 ≤ x ∧ x ≤ 9223372036854775807) (hs : sumZ (List.zipWith (· * ·) a b) ≤ 9223372036854775807)
    (h : ∀ w', Ext w w' → R (sumZ (List.zipWith (· * ·) a b)) true w') :
    Calls PP n_checked_Dot #[s.v, t.v] w fun e w' => ∃ (r : Int) (q : Bool), e = .returned (.tuple #[.int .i64 r, .bool q]) ∧ R r q w' := by
  refine vc_checked_Dot ?_
  unfold VC_checked_Dot
  have l1 := hx.len
  have l2 := hy.len
  refine ⟨fun hn => absurd (by rw [l1, l2, hab]) hn, fun _ => ?_⟩
  refine ⟨fun r i w' => ∃ k : Nat, i = k ∧ k ≤ a.length ∧ Ext w w' ∧ OwnL w' t_int 1 intE r ((List.zipWith (· * ·) a b).take k) ∧ (∀ c, r.blk = some c → w.heap.size ≤ c), fun _ i _ => (a.length - i).toNat,
    ⟨0, rfl, by omega, Chg.refl w, OwnL.nil, fun c hc => (nomatch hc)⟩, ?_⟩
  rintro r _ w1 ⟨k, rfl, hk, x1, ho, hf⟩
  have hn := ho.len intE_len (by decide)
  have hzl : (List.zipWith (· * ·) a b).length = a.length := by simp; omega
  have hnk : r.n = k := by rw [hn, List.length_take]; omega
  refine ⟨fun hl => ?_, fun hl => ?_⟩
  · obtain ⟨g, o, u, hg, hu, hc⟩ := (hx.ext x1).int (i := k) (by omega)
    obtain ⟨g', o', v, hg', hv, hc'⟩ := (hy.ext x1).int (i := k) (by omega)
    have hz : (List.zipWith (· * ·) a b)[k]? = some (u * v) := by rw [List.getElem?_zipWith, hu, hv]
    have b1 := ha u (gm hu)
    have b2 := hb v (gm hv)
    have b3 := hp _ (gm hz)
    refine ⟨k, rfl, by omega, g, o, hg, u, hc, by omega, g', o', hg', v, hc', fun w2 x2 => k_checked_Mul ⟨by omega, by omega⟩ ⟨by omega, by omega⟩ ?_⟩
    rw [mulS_ok ⟨b1.1, b2.1, b3.2⟩]
    refine ⟨x2.cell hc, x2.cell hc', fun _ => ⟨_, ho.ext x2, ⟨by omega, by show _ ≤ 9223372036854775807; omega⟩, fun r2 w3 hA => ⟨k + 1, (wr64 (by omega)).symm, ⟨k + 1, by simp, by omega, ?_, ?_, ?_⟩, by dsimp only; omega⟩⟩, fun h => nomatch h⟩
    · exact Chg.of_new (x1.tr x2) hA.chg fun c hc => hf c hc
    · rw [tk hz]; exact hA.ownL
    · intro c hc
      rcases hA.lt hc with h | h
      · exact hf c h
      · exact Nat.le_trans (x1.tr x2).size h
  · rw [List.take_of_length_le (by omega)] at ho
    exact k_checked_Sum (ho.rows intE_len (by decide)) (fun x hx => (hp x hx).1) hs (h w1 x1)
theorem k_table_Weight {s : Sl} {l : List Wd} {R : Int → Bool → World → Prop} (hx : Rows w 2 wdE s l) (hlen : l.length ≤ 1099511627776)
    (hp : ∀ x ∈ l, 0 ≤ x.2 ∧ x.2 ≤ 9223372036854775807 ∧ x.1.size ≤ 1099511627776 ∧ wgt x ≤ 9223372036854775807) (hs : sumZ (l.map wgt) ≤ 9223372036854775807) (h : ∀ w', Ext w w' → R (sumZ (l.map wgt)) true w') :
    Calls PP n_table_Weight #[s.v] w fun e w' => ∃ (r : Int) (q : Bool), e = .returned (.tuple #[.int .i64 r, .bool q]) ∧ R r q w' := by
  refine vc_table_Weight ?_
  unfold VC_table_Weight
  have l1 := hx.len
  refine ⟨fun r q i w' => ∃ k : Nat, i = k ∧ k ≤ l.length ∧ Ext w w' ∧ OwnL w' t_int 1 intE r ((l.take k).map (·.2)) ∧ OwnL w' t_int 1 intE q ((l.take k).map fun x => ((x.1.size - 1 : Nat) : Int)) ∧ (∀ c, r.blk = some c → w.heap.size ≤ c ∧ q.blk ≠ some c) ∧ (∀ c, q.blk = some c → w.heap.size ≤ c), fun _ _ i _ => (l.length - i).toNat,
    ⟨0, rfl, by omega, Chg.refl w, OwnL.nil, OwnL.nil, fun c hc => (nomatch hc), fun c hc => (nomatch hc)⟩, ?_⟩
  rintro r q _ w1 ⟨k, rfl, hk, x1, ho, hq, hf, hf2⟩
  have hn := ho.len intE_len (by decide)
  have hn2 := hq.len intE_len (by decide)
  rw [List.length_map, List.length_take] at hn hn2
  refine ⟨fun hl => ?_, fun hl => ?_⟩
  · obtain ⟨g, o, u, hg, hu, hc, hc2⟩ := (hx.ext x1).wd (i := k) (by omega)
    obtain ⟨p1, p2, p3, p4⟩ := hp u (gm hu)
    refine ⟨k, rfl, by omega, g, o, hg, u.1, u.2, ⟨hc, hc2, trivial⟩, fun c w2 hP w3 x3 => ?_⟩
    have x4 := hP.then x3
    have hcf := hP.fresh
    have bne : ∀ (r : Sl) (xs : List Int), OwnL w1 t_int 1 intE r xs → r.blk ≠ some c := fun r xs ho e => by have := ho.lt e; omega
    refine ⟨_, ho.ext x4, ⟨by omega, by show _ ≤ 9223372036854775807; omega⟩, bne _ _ ho, fun r2 w4 hA => ⟨_, rfl, ?_⟩⟩
    have hq4 := (hq.ext x4).chg hA.chg fun c hc e => (hf c e).2 hc
    refine ⟨_, hq4, ⟨by omega, by show _ ≤ 9223372036854775807; omega⟩, bne _ _ hq, fun q2 w5 hB => ⟨k + 1, (wr64 (by omega)).symm, ⟨k + 1, by simp, by omega, ?_, ?_, ?_, ?_, ?_⟩, by dsimp only; omega⟩⟩
    · exact Chg.of_new (Chg.of_new (x1.tr x4) hA.chg fun c hc => (hf c hc).1) hB.chg fun c hc => hf2 c hc
    · rw [tk hu, List.map_append]
      refine (hA.ownL (x := u.2)).chg hB.chg fun c hc e => ?_
      rcases hA.lt hc with h | h
      · exact (hf c h).2 e
      · have := (hq.ext x4).lt e; omega
    · rw [tk hu, List.map_append]
      refine hB.ownL (x := ((u.1.size - 1 : Nat) : Int)) ?_
      have : max (IntKind.wrap .i64 ((u.1.size : Int) - 1)) 0 = ((u.1.size - 1 : Nat) : Int) := by rw [wr64 (by omega)]; omega
      rw [this]; rfl
    · intro c hc
      have hs4 := hA.chg.size
      rcases hA.lt hc with h | h
      · refine ⟨(hf c h).1, fun e => ?_⟩
        rcases hB.lt e with e | e
        · exact (hf c h).2 e
        · have := (ho.ext x4).lt h; omega
      · refine ⟨Nat.le_trans (x1.tr x4).size h, fun e => ?_⟩
        rcases hB.lt e with e | e
        · have := (hq.ext x4).lt e; omega
        · have := (hA.ownL (x := u.2)).lt hc; omega
    · intro c hc
      rcases hB.lt hc with h | h
      · exact hf2 c h
      · have := (x1.tr x4).size; have := hA.chg.size; omega
  · rw [List.take_of_length_le (by omega)] at ho hq
    have ez : List.zipWith (· * ·) (l.map (·.2)) (l.map fun x => ((x.1.size - 1 : Nat) : Int)) = l.map wgt := by
      rw [List.zipWith_map, List.zipWith_self]; rfl
    refine k_checked_Dot (ho.rows intE_len (by decide)) (hq.rows intE_len (by decide)) (by simp) (by simpa using hlen) ?_ ?_ ?_ (by rw [ez]; exact hs) (fun w2 x2 => by rw [ez]; exact h w2 (x1.tr x2))
    · rw [ez]
      intro x hx
      obtain ⟨y, hy, rfl⟩ := List.mem_map.1 hx
      obtain ⟨p1, p2, p3, p4⟩ := hp y hy
      exact ⟨Int.mul_nonneg p1 (by omega), p4⟩
    · intro x hx
      obtain ⟨y, hy, rfl⟩ := List.mem_map.1 hx
      have := hp y hy; exact ⟨this.1, this.2.1⟩
    · intro x hx
      obtain ⟨y, hy, rfl⟩ := List.mem_map.1 hx
      have := hp y hy; omega
theorem k_table_Positions {s : Sl} {l : List Wd} {R : Int → World → Prop} (hx : Rows w 2 wdE s l) (hlen : l.length ≤ 1048576) (hp : ∀ x ∈ l, x.1.size ≤ 1099511627776) (h : ∀ w', Ext w w' → R (sumZ (l.map fun x => (x.1.size : Int))) w') :
    Calls PP n_table_Positions #[s.v] w fun e w' => ∃ r : Int, e = .returned (.int .i64 r) ∧ R r w' := by
  refine vc_table_Positions ?_
  unfold VC_table_Positions
  have l1 := hx.len
  refine ⟨fun t i w' => ∃ k : Nat, i = k ∧ k ≤ l.length ∧ Ext w w' ∧ t = sumZ ((l.take k).map fun x => (x.1.size : Int)) ∧ 0 ≤ t ∧ t ≤ k * 1099511627776, fun _ i _ => (l.length - i).toNat, ⟨0, rfl, by omega, Chg.refl w, rfl, by omega, by omega⟩, ?_⟩
  rintro t _ w1 ⟨k, rfl, hk, x1, ht, h1, h2⟩
  refine ⟨fun hl => ?_, fun hl => ?_⟩
  · obtain ⟨g, o, u, hg, hu, hc, hc2⟩ := (hx.ext x1).wd (i := k) (by omega)
    have := hp u (gm hu)
    refine ⟨k, rfl, by omega, g, o, hg, u.1, u.2, ⟨hc, hc2, trivial⟩, fun c w2 hP w3 x3 => ⟨_, rfl, k + 1, (wr64 (by omega)).symm, ⟨k + 1, by simp, by omega, x1.tr (hP.then x3), ?_, ?_, ?_⟩, by dsimp only; omega⟩⟩
    · rw [tk hu, List.map_append, List.map_singleton, sumZ_snoc, ← ht, wr64 (by omega)]
    · rw [wr64 (by omega)]; omega
    · rw [wr64 (by omega)]; omega
  · rw [List.take_of_length_le (by omega)] at ht
    exact ht ▸ h w1 x1
theorem k_table_Params {a b c : Int} {R : Int → World → Prop} (h : ∀ w', Ext w w' → R (if a < 0 ∨ 1048576 < a ∨ b < 1 ∨ c < 1 ∨ 65536 < c then 2 else 0) w') :
    Calls PP n_table_Params #[.agg #[.int .i64 a, .int .i64 b, .int .i64 c]] w fun e w' => ∃ r : Int, e = .returned (.int .i64 r) ∧ R r w' := by
  refine vc_table_Params ?_
  unfold VC_table_Params
  intro g w2 hP
  have h := h w2 hP.ext
  refine ⟨fun h1 => ?_, fun h1 => ⟨fun h2 => ?_, fun h2 => ⟨fun h3 => ?_, fun h3 => ⟨fun h4 => ?_, fun h4 => ⟨fun h5 => ?_, fun h5 => ?_⟩⟩⟩⟩⟩
  all_goals first | (rw [if_pos (by omega)] at h; exact h) | (rw [if_neg (by omega)] at h; exact h)
theorem k_ref08_Params {a b c : Int} {R : Int → World → Prop} (h : ∀ w', Ext w w' → R (if a < 0 ∨ 1048576 < a ∨ b < 1 ∨ c < 1 ∨ 65536 < c then 2 else 0) w') :
    Calls PP n_ref08_Params #[.agg #[.int .i64 a, .int .i64 b, .int .i64 c]] w fun e w' => ∃ r : Int, e = .returned (.int .i64 r) ∧ R r w' := by
  refine vc_ref08_Params ?_
  unfold VC_ref08_Params
  intro g w2 hP
  have h := h w2 hP.ext
  refine ⟨fun h1 => ?_, fun h1 => ⟨fun h2 => ?_, fun h2 => ⟨fun h3 => ?_, fun h3 => ⟨fun h4 => ?_, fun h4 => ⟨fun h5 => ?_, fun h5 => ?_⟩⟩⟩⟩⟩
  all_goals first | (rw [if_pos (by omega)] at h; exact h) | (rw [if_neg (by omega)] at h; exact h)
end
end Go.Proofs.Ytcgeeddhneopfaa.G
