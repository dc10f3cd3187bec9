/- Contracts: counting pairs, the best pair, by the document's answer. -/
import Derived.Test.YtchjcjocihckpaaIbC
namespace Go.Proofs.Ytchjcjocihckpaa.G
open Go Go.RowKit
theorem tot_at {ws : List (List BA)} {cs : List Int} {k : Nat} {l : List BA} {c : Int} (hw : ws[k]? = some l) (hc : cs[k]? = some c) (p : Mg) : tot (ws.drop k) (cs.drop k) p = c * (cntT l p : Int) + tot (ws.drop (k + 1)) (cs.drop (k + 1)) p := by
  rw [drop_at hw, drop_at hc]; rfl
theorem cnt_at {l : List BA} {k : Nat} {a b : BA} (ha : l[k]? = some a) (hb : l[k + 1]? = some b) (p : Mg) : cntT (l.drop k) p = (if a = p.1 ∧ b = p.2 then 1 else 0) + cntT (l.drop (k + 1)) p := by
  rw [drop_at ha, drop_at hb]; rfl
theorem cnt_end {l : List BA} {k : Nat} (h : l.length ≤ k + 1) (p : Mg) : cntT (l.drop k) p = 0 := by
  have := cntT_le p (l.drop k)
  rw [List.length_drop] at this; omega
theorem at_adj {l : List BA} {k : Nat} {a b : BA} (ha : l[k]? = some a) (hb : l[k + 1]? = some b) : adjT (a, b) l := by
  refine ⟨l.take k, l.drop (k + 2), ?_⟩
  show l = l.take k ++ a :: b :: l.drop (k + 2)
  rw [← drop_at hb, ← drop_at ha, List.take_append_drop]
theorem adj_at {l : List BA} {p : Mg} (h : adjT p l) : ∃ k, l[k]? = some p.1 ∧ l[k + 1]? = some p.2 := by
  obtain ⟨a, b, rfl⟩ := h
  refine ⟨a.length, ?_, ?_⟩
  · rw [List.getElem?_append_right (Nat.le_refl _), Nat.sub_self]; rfl
  · rw [List.getElem?_append_right (by omega), show a.length + 1 - a.length = 1 by omega]; rfl
section
variable {w w1 : World} {s t : Sl} {ws : List (List BA)} {cs : List Int}
theorem k_ref16_Count {m : Mg} {R : Int → World → Prop} (hs : Rws w s ws) (ht : Rows w 1 intE t cs) (hl : ws.length = cs.length) (hc : ∀ c ∈ cs, 1 ≤ c) (hb : tot ws cs m ≤ 9223372036854775807) (hz : posT ws ≤ 1099511627776) (h : ∀ w', Ext w w' → R (tot ws cs m) w') :
    Calls PP n_ref16_Count #[s.v, t.v, .agg #[.string m.1, .string m.2]] w fun e w' => ∃ r : Int, e = .returned (.int .i64 r) ∧ R r w' := by
  refine vc_ref16_Count (a2_0 := m.1) (a2_1 := m.2) ?_
  unfold VC_ref16_Count
  intro b1 w2 hP
  have l1 := hs.len
  have l2 := ht.len
  have l3 := hs.lim
  have hs2 := hs.ext hP.ext
  have ht2 := ht.ext hP.ext
  have hnn : ∀ k, 0 ≤ tot (ws.drop k) (cs.drop k) m := fun k => tot_nn m (fun c hc' => hc c (List.mem_of_mem_drop hc')) _
  have fin : ∀ {acc : Int} {k : Nat} {W : World}, Ext w2 W → acc + tot (ws.drop k) (cs.drop k) m = tot ws cs m → ws.length ≤ k → R acc W := by
    intro acc k W X he hk
    rw [List.drop_eq_nil_of_le hk] at he
    have := h W (hP.ext.tr X)
    rw [← he] at this
    simpa [tot] using this
  refine ⟨fun acc i W => ∃ k : Nat, i = k ∧ k ≤ ws.length ∧ Ext w2 W ∧ 0 ≤ acc ∧ acc + tot (ws.drop k) (cs.drop k) m = tot ws cs m, fun _ i _ => (ws.length - i).toNat, ⟨0, rfl, by omega, Chg.refl _, by omega, by simp⟩, ?_⟩
  rintro acc _ W ⟨k, rfl, hk, X, ha, he⟩
  refine ⟨fun hlt => ⟨fun hlt2 => ?_, fun hn => by omega⟩, fun hn => fin X he (by omega)⟩
  obtain ⟨g, o, c, hg, hck, hcc⟩ := (ht2.ext X).int (i := k) (by omega)
  have hc1 := hc c (gm hck)
  obtain ⟨g2, o2, r, l, hg2, hwk, hrc, hrow⟩ := (hs2.ext X).at (i := k) (by omega)
  have hlz := posT_mem (gm hwk)
  rw [tot_at hwk hck] at he
  have hnk := hnn (k + 1)
  refine ⟨k, rfl, by omega, g, o, hg, c, hcc, fun h1 => by omega, fun _ => ?_⟩
  refine ⟨fun acc j W' => ∃ q : Nat, j = q ∧ q ≤ l.length ∧ Ext W W' ∧ 0 ≤ acc ∧ acc + (c * (cntT (l.drop q) m : Int) + tot (ws.drop (k + 1)) (cs.drop (k + 1)) m) = tot ws cs m, fun _ j _ => (l.length - j).toNat, ⟨0, rfl, by omega, Chg.refl _, ha, by simpa using he⟩, ?_⟩
  rintro acc2 _ W3 ⟨q, rfl, hq, X3, ha3, he3⟩
  have hrn := hrow.len
  refine ⟨_, rfl, by omega, g2, o2, hg2, r, X3.cell hrc, fun h1 => ?_, fun h1 => ?_⟩
  · rw [wr64 (by omega)] at h1
    obtain ⟨ga, oa, a, hga, hla, hca⟩ := (hrow.ext X3).str (i := q) (by omega)
    obtain ⟨ga', oa', b, hga', hlb, hcb⟩ := (hrow.ext X3).str (i := q + 1) (by omega)
    rw [hga] at hga'; cases hga'
    rw [cnt_at hla hlb] at he3
    have hcn := Int.mul_nonneg (show 0 ≤ c by omega) (show (0 : Int) ≤ (cntT (l.drop (q + 1)) m : Int) by omega)
    refine ⟨fun j W4 => Ext W3 W4 ∧ j = decide (a = m.1 ∧ b = m.2), ?_, q, rfl, by omega, ga, oa, hga, a, hca, fun e1 => ⟨_, rfl, q + 1, by rw [wr64 (by omega)]; simp, by omega, b, hcb, fun w48 x48 => ⟨x48, decide_eq_decide.2 ⟨fun e => ⟨e1, e⟩, fun e => e.2⟩⟩⟩, fun e1 w48 x48 => ⟨x48, (decide_eq_false fun e => e1 e.1).symm⟩⟩
    rintro j W4 ⟨x4, hj⟩
    refine ⟨fun hjt => ?_, fun hjf => ?_⟩
    · rw [hj] at hjt
      rw [if_pos (of_decide_eq_true hjt), Int.natCast_add, Int.mul_add, show c * ((1 : Nat) : Int) = c by simp] at he3
      refine ⟨by omega, g, o, hg, c, (X3.tr x4).cell hcc, _, rfl, _, rfl, ⟨q + 1, by rw [wr64 (by omega)]; simp, by omega, X3.tr x4, by rw [wr64 (by omega)]; omega, by rw [wr64 (by omega)]; omega⟩, by dsimp only; rw [wr64 (by omega)]; omega⟩
    · rw [hj] at hjf
      rw [if_neg (of_decide_eq_false hjf), Nat.zero_add] at he3
      exact ⟨_, rfl, ⟨q + 1, by rw [wr64 (by omega)]; simp, by omega, X3.tr x4, ha3, he3⟩, by rw [wr64 (by omega)]; dsimp only; omega⟩
  · rw [wr64 (by omega)] at h1
    rw [cnt_end (by omega)] at he3
    exact ⟨_, rfl, ⟨k + 1, by rw [wr64 (by omega)]; simp, by omega, X.tr X3, ha3, by simpa using he3⟩, by rw [wr64 (by omega)]; dsimp only; omega⟩
theorem k_ref16_Best {R : BA → BA → Int → World → Prop} (hs : Rws w s ws) (ht : Rows w 1 intE t cs) (hl : ws.length = cs.length) (hc : ∀ c ∈ cs, 1 ≤ c) (hb : ∀ m, tot ws cs m ≤ 9223372036854775807) (hz : posT ws ≤ 1099511627776) (hbz : ∀ l ∈ ws, ∀ u ∈ l, u.size ≤ 1099511627776)
    (h : ∀ m n w', Ext w w' → BestIs ws cs m n → R m.1 m.2 n w') :
    Calls PP n_ref16_Best #[s.v, t.v] w fun e w' => ∃ r0 r1 : BA, ∃ r2 : Int, e = .returned (.tuple #[.agg #[.string r0, .string r1], .int .i64 r2]) ∧ R r0 r1 r2 w' := by
  refine vc_ref16_Best ?_
  unfold VC_ref16_Best
  intro b1 w2 hP1 b5 w6 hP5 w10 c10
  have l1 := hs.len
  have l2 := ht.len
  have l3 := hs.lim
  have hmax : maxLen = 9223372036854775807 := rfl
  have x10 : Ext w w10 := hP1.ext.tr (hP5.then c10)
  have b1f : w.heap.size ≤ b1 := hP1.fresh
  have b5f : w2.heap.size ≤ b5 := hP5.fresh
  have hw2 := hP1.ext.size
  have b1l : b1 < w10.heap.size := by have := hP1.lt; have := hP5.ext.size; have := c10.size; omega
  have b5l : b5 < w10.heap.size := by have := hP5.lt; have := c10.size; omega
  refine ⟨fun n m0 m1 W => Ext w W ∧ BestIs ws cs (m0, m1) n, fun n m0 m1 W ⟨X, hB⟩ w197 c197 => h (m0, m1) n w197 (Chg.of_new X c197 fun b hb => by have : b = b1 := hb; omega) hB, ?_⟩
  let St : Int → Sl → BA → BA → List Mg → Nat → World → Prop := fun n q m0 m1 seen k W => Ext w W ∧ w10.heap.size ≤ W.heap.size ∧ OwnL W t_api_Merge 2 mgE q seen ∧ (∀ c, q.blk = some c → w10.heap.size ≤ c) ∧ Seen ws cs seen (m0, m1) n ∧ (∀ i < k, ∀ l, ws[i]? = some l → ∀ p, adjT p l → p ∈ seen)
  refine ⟨fun n q i m0 m1 W => ∃ (k : Nat) (seen : List Mg), i = k ∧ k ≤ ws.length ∧ seen.length ≤ posT (ws.take k) ∧ St n q m0 m1 seen k W, fun _ _ i _ _ _ => (ws.length - i).toNat,
    ⟨0, [], rfl, by omega, Nat.zero_le _, x10, Nat.le_refl _, OwnL.nil, fun c hc => (nomatch hc), Seen.nil, fun i hi => absurd hi (Nat.not_lt_zero _)⟩, ?_⟩
  rintro n q _ m0 m1 W ⟨k, seen, rfl, hk, hsl, X, hWs, hO, hqf, hS, hcov⟩
  have fin : ws.length ≤ k → Ext w W ∧ BestIs ws cs (m0, m1) n := fun hk2 => ⟨X, hS.all fun l hl' p hp => by
    obtain ⟨i, hi⟩ := List.mem_iff_getElem?.1 hl'
    exact hcov i (by have := gl hi; omega) l hi p hp⟩
  refine ⟨fun hlt => ⟨fun hlt2 => ?_, fun hn => fin (by omega)⟩, fun hn => fin (by omega)⟩
  obtain ⟨g2, o2, r, l, hg2, hwk, hrc, hrow⟩ := (hs.ext X).at (i := k) (by omega)
  obtain ⟨g, o, c, hg, hck, hcc⟩ := (ht.ext X).int (i := k) (by omega)
  have hc1 := hc c (gm hck)
  have hlz := posT_mem (gm hwk)
  have hrn := hrow.len
  have hpt := posT_take hwk
  have hpl := posT_take_le ws (k + 1)
  refine ⟨fun n q j m0 m1 W' => ∃ (z : Nat) (seen : List Mg), j = z ∧ z ≤ l.length ∧ seen.length ≤ posT (ws.take k) + z ∧ Ext w W' ∧ w10.heap.size ≤ W'.heap.size ∧ OwnL W' t_api_Merge 2 mgE q seen ∧ (∀ c, q.blk = some c → w10.heap.size ≤ c) ∧ Seen ws cs seen (m0, m1) n ∧ (∀ i < k, ∀ l, ws[i]? = some l → ∀ p, adjT p l → p ∈ seen) ∧ (∀ i < z, ∀ a b, l[i]? = some a → l[i + 1]? = some b → (a, b) ∈ seen),
    fun _ _ j _ _ _ => (l.length - j).toNat, ⟨0, seen, rfl, by omega, by omega, X, hWs, hO, hqf, hS, hcov, fun i hi => absurd hi (Nat.not_lt_zero _)⟩, ?_⟩
  clear hO hqf hS hsl fin hcov
  rintro n q _ m0 m1 W3 ⟨z, seen, rfl, hzl, hsl, X3, hW3, hO, hqf, hS, hcov, hcz⟩
  obtain ⟨g2', o2', r', l', hg2', hwk', hrc', hrow'⟩ := (hs.ext X3).at (i := k) (by omega)
  rw [hwk] at hwk'; cases hwk'
  obtain ⟨g', o', c', hg', hck', hcc'⟩ := (ht.ext X3).int (i := k) (by omega)
  rw [hck] at hck'; cases hck'
  have hrn' := hrow'.len
  have hqn := hO.len mgE_len (by decide)
  refine ⟨_, rfl, k, rfl, by omega, g2', o2', hg2', r', hrc', fun h1 => ⟨by omega, g', o', hg', c, hcc', fun _ => ?_, fun hn => by omega⟩, fun h1 => ?_⟩
  · rw [wr64 (by omega)] at h1
    obtain ⟨ga, oa, a, hga, hla, hca⟩ := hrow'.str (i := z) (by omega)
    obtain ⟨ga', oa', b, hga', hlb, hcb⟩ := hrow'.str (i := z + 1) (by omega)
    rw [hga] at hga'; cases hga'
    have haz := hbz l (gm hwk) a (gm hla)
    have hbz' := hbz l (gm hwk) b (gm hlb)
    have hadj := at_adj hla hlb
    have htp := adj_tot (p := (a, b)) hc (by omega) ⟨l, gm hwk, hadj⟩
    refine ⟨z, rfl, by omega, ga, oa, hga, a, hca, _, rfl, z + 1, by rw [wr64 (by omega)]; simp, by omega, b, hcb, fun b78 w79 hP8 w84 c84 => ?_⟩
    have x84 : Ext W3 w84 := hP8.then c84
    have b78f : W3.heap.size ≤ b78 := hP8.fresh
    have b78l : b78 < w84.heap.size := Nat.lt_of_lt_of_le hP8.lt c84.size
    refine ⟨x84.cell hrc', x84.cell hca, x84.cell hrc', x84.cell hcb, ?_⟩
    have hz1 : IntKind.wrap .i64 ((z : Int) + 1) = ((z + 1 : Nat) : Int) := by rw [wr64 (by omega)]; simp
    refine ⟨fun j W4 => Ext w84 W4 ∧ (j = true → (a, b) ∈ seen) ∧ (j = false → (a, b) ∉ seen), ?_, ?_⟩
    · rintro j W4 ⟨x4, hjt, hjf⟩
      have x34 : Ext W3 W4 := x84.tr x4
      have s34 := x34.size
      have s4 := x4.size
      refine ⟨fun hj => ⟨_, rfl, ⟨z + 1, seen, hz1, by omega, by omega, X3.tr x34, by omega, hO.ext x34, hqf, hS, hcov, fun i hi a' b' ha' hb' => ?_⟩, by rw [hz1]; dsimp only; omega⟩, fun hj => ?_⟩
      · rcases Nat.lt_or_ge i z with h4 | h4
        · exact hcz i h4 a' b' ha' hb'
        · have : i = z := by omega
          subst this
          rw [hla] at ha'; rw [hlb] at hb'; cases ha'; cases hb'
          exact hjt hj
      · have hOx := hO.ext x34
        have hns := hjf hj
        refine ⟨_, hOx, by omega, fun e => by have := hqf b1 e; omega, fun e => by have := hqf b5 e; omega, fun e => by have := hO.lt e; omega, fun s133 w132 hA => ?_⟩
        have x132 : Ext w w132 := Chg.of_new (X3.tr x34) hA.chg fun b hb => by have := hqf b hb; have := x10.size; omega
        have hs132 := hA.chg.size
        have hO' : OwnL w132 t_api_Merge 2 mgE s133 (seen ++ [(a, b)]) := hA.ownL
        have hqf' : ∀ c, s133.blk = some c → w10.heap.size ≤ c := fun c hc => by
          rcases hA.lt hc with h | h
          · exact hqf c h
          · omega
        have hcov' : ∀ i < k, ∀ l, ws[i]? = some l → ∀ p, adjT p l → p ∈ seen ++ [(a, b)] := fun i hi l hl p hp => by have := hcov i hi l hl p hp; simp [this]
        have hcz' : ∀ i < z + 1, ∀ a' b', l[i]? = some a' → l[i + 1]? = some b' → (a', b') ∈ seen ++ [(a, b)] := fun i hi a' b' ha' hb' => by
          rcases Nat.lt_or_ge i z with h4 | h4
          · have := hcz i h4 a' b' ha' hb'; simp [this]
          · have : i = z := by omega
            subst this
            rw [hla] at ha'; rw [hlb] at hb'; cases ha'; cases hb'; simp
        refine k_ref16_Count (m := (a, b)) (hs.ext x132) (ht.ext x132) hl hc (hb _) hz fun w143 x143 => ⟨x143.keep (by omega), x143.keep (by omega), x143.keep (by omega), ?_⟩
        have hs143 := x143.size
        have hst := hS.step htp hns
        refine ⟨fun j W5 => Ext w143 W5 ∧ j = lessM (a, b) (m0, m1), ?_, ?_⟩
        · rintro j W5 ⟨x5, rfl⟩
          have hs5 := x5.size
          refine ⟨fun j W6 => W6 = W5 ∧ j = decide (n < tot ws cs (a, b) ∨ (tot ws cs (a, b) = n ∧ lessM (a, b) (m0, m1) = true)), ?_, fun h6 => ⟨rfl, (decide_eq_true (.inl h6)).symm⟩, fun h6 => ⟨fun h7 => ⟨rfl, ?_⟩, fun h7 => ⟨rfl, (decide_eq_false fun e => e.elim h6 fun e => h7 e.1).symm⟩⟩⟩
          · rintro j W6 ⟨rfl, hj6⟩
            have X6 : Ext w W6 := (x132.tr x143).tr x5
            refine ⟨fun h7 w189 c189 => ⟨_, rfl, ⟨z + 1, seen ++ [(a, b)], hz1, by omega, by simp; omega, ?_, ?_, ?_, hqf', hst.1 (of_decide_eq_true (hj6.symm.trans h7)), hcov', hcz'⟩, by rw [hz1]; dsimp only; omega⟩, fun h7 => ⟨_, rfl, ⟨z + 1, seen ++ [(a, b)], hz1, by omega, by simp; omega, X6, by omega, hO'.ext (x143.tr x5), hqf', hst.2 (of_decide_eq_false (hj6.symm.trans h7)), hcov', hcz'⟩, by rw [hz1]; dsimp only; omega⟩⟩
            · exact Chg.of_new X6 c189 fun b hb => by have : b = b5 := hb; omega
            · have := c189.size; omega
            · exact (hO'.ext (x143.tr x5)).chg c189 fun b hb e => by have : b = b5 := e; have := hqf' b hb; omega
          · cases hl6 : lessM (a, b) (m0, m1) with
            | true => exact (decide_eq_true (.inr ⟨h7, rfl⟩)).symm
            | false => exact (decide_eq_false fun e => e.elim h6 fun e => by cases e.2).symm
        · refine k_ref01_Less (by omega) fun w157 x157 => ⟨x157.keep (by omega), x157.keep (by omega), x157.keep (by omega), fun h8 => ⟨x157, ?_⟩, fun h8 => ⟨fun h9 => ?_, fun h9 => ⟨x157, ?_⟩⟩⟩
          · unfold lessM; show true = (bless a m0 || _); rw [h8]; rfl
          · have hs157 := x157.size
            refine k_ref01_Less (by omega) fun w167 x167 => ⟨x167.keep (by omega), x167.keep (by omega), x167.keep (by omega), x157.tr x167, ?_⟩
            unfold lessM; show _ = (bless a m0 || (decide (a = m0) && bless b m1)); rw [h8, decide_eq_true h9]; rfl
          · unfold lessM; show false = (bless a m0 || (decide (a = m0) && _)); rw [h8, decide_eq_false h9]; rfl
    · have hO84 := hO.ext x84
      have hR84 := hO84.rows mgE_len (by decide)
      refine ⟨fun j y W4 => ∃ u : Nat, y = u ∧ u ≤ seen.length ∧ Ext w84 W4 ∧ (j = true → (a, b) ∈ seen) ∧ (j = false → (a, b) ∉ seen.take u), fun _ y _ => (seen.length - y).toNat, ⟨0, rfl, by omega, Chg.refl _, fun h => (nomatch h), fun _ => by simp⟩, ?_⟩
      rintro j _ W4 ⟨u, rfl, hu, x4, hjt, hjf⟩
      have stop : seen.length ≤ u → Ext w84 W4 ∧ (j = true → (a, b) ∈ seen) ∧ (j = false → (a, b) ∉ seen) := fun hge => ⟨x4, hjt, fun hj => by have := hjf hj; rwa [List.take_of_length_le hge] at this⟩
      refine ⟨fun h5 => ⟨fun hj => ⟨x4, hjt, fun hf => by rw [hj] at hf; cases hf⟩, fun hj => ?_⟩, fun h5 => stop (by omega)⟩
      obtain ⟨gb, ob, v, hgb, hv, hv1, hv2⟩ := (hR84.ext x4).mg (i := u) (by omega)
      refine ⟨u, rfl, by omega, gb, ob, hgb, v.1, v.2, ⟨hv1, hv2, trivial⟩, _, rfl, fun w109 x109 => ⟨⟨u + 1, by rw [wr64 (by omega)]; simp, by omega, x4.tr x109, fun h6 => ?_, fun h6 => ?_⟩, by rw [wr64 (by omega)]; dsimp only; omega⟩⟩
      · have h6 := of_decide_eq_true h6
        have : v = (a, b) := Prod.ext h6.1 h6.2
        exact this ▸ gm hv
      · have h6 := of_decide_eq_false h6
        rw [tk hv]
        intro h7
        rcases List.mem_append.1 h7 with h7 | h7
        · exact hjf hj h7
        · rw [List.mem_singleton] at h7; exact h6 ⟨by rw [← h7], by rw [← h7]⟩
  · rw [wr64 (by omega)] at h1
    refine ⟨_, rfl, ⟨k + 1, seen, by rw [wr64 (by omega)]; simp, by omega, by omega, X3, hW3, hO, hqf, hS, fun i hi l' hl' p hp => ?_⟩, by rw [wr64 (by omega)]; dsimp only; omega⟩
    rcases Nat.lt_or_ge i k with h4 | h4
    · exact hcov i h4 l' hl' p hp
    · have : i = k := by omega
      subst this
      rw [hwk] at hl'; cases hl'
      obtain ⟨z', hz1, hz2⟩ := adj_at hp
      have := gl hz2
      exact hcz z' (by omega) p.1 p.2 hz1 hz2
end
end Go.Proofs.Ytchjcjocihckpaa.G
