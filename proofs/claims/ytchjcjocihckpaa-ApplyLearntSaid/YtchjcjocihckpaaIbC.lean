/- Contracts: learning, by the document's answer. -/
import Derived.Test.YtchjcjocihckpaaIaC
import Derived.Test.YtchjcjocihckpaaPlC
namespace Go.Proofs.Ytchjcjocihckpaa.G
open Go Go.RowKit
/-! Rows of rows of texts. -/
def slE (s : Sl) : List Value := [s.v]
theorem slE_len (s : Sl) : (slE s).length = 1 := rfl
section
variable {w w1 : World} {s : Sl} {i : Nat} {ws : List (List BA)}
def Rws (w : World) (s : Sl) (ws : List (List BA)) : Prop := ∃ rs : List Sl, Rows w 1 slE s rs ∧ rs.length = ws.length ∧ ∀ (i : Nat) (r : Sl) (l : List BA), rs[i]? = some r → ws[i]? = some l → Rows w 1 strE r l
theorem Rws.ext (h : Rws w s ws) (x : Ext w w1) : Rws w1 s ws := by
  obtain ⟨rs, h1, h2, h3⟩ := h
  exact ⟨rs, h1.ext x, h2, fun i r l hr hl => (h3 i r l hr hl).ext x⟩
theorem Rws.len (h : Rws w s ws) : s.n = ws.length := by obtain ⟨rs, h1, h2, h3⟩ := h; rw [h1.len, h2]
theorem Rws.lim (h : Rws w s ws) : s.n ≤ 9223372036854775807 := by obtain ⟨rs, h1, h2, h3⟩ := h; exact h1.lim
theorem Rws.at (h : Rws w s ws) (hi : i < s.n) : ∃ b o r l, s.b = some ⟨b, o, none⟩ ∧ ws[i]? = some l ∧ w.cell? ⟨b, o + i * 1, none⟩ = some r.v ∧ Rows w 1 strE r l := by
  obtain ⟨rs, h1, h2, h3⟩ := h
  obtain ⟨b, o, e, hl, hc⟩ := h1.get hi
  have hw : ws[i]? = some (ws[i]'(by omega)) := List.getElem?_eq_getElem _
  exact ⟨b, o, rs[i], _, e, hw, (show Cells w b (o + i * 1) [_] from hc).1, h3 i _ _ (List.getElem?_eq_getElem hl) hw⟩
def RwsO (w : World) (s : Sl) (ws : List (List BA)) : Prop := ∃ rs : List Sl, OwnL w t_sl_string 1 slE s rs ∧ rs.length = ws.length ∧ ∀ (i : Nat) (r : Sl) (l : List BA), rs[i]? = some r → ws[i]? = some l → OwnL w t_string 1 strE r l
theorem RwsO.rws (h : RwsO w s ws) : Rws w s ws := by
  obtain ⟨rs, h1, h2, h3⟩ := h
  exact ⟨rs, h1.rows slE_len (by decide), h2, fun i r l hr hl => (h3 i r l hr hl).rows strE_len (by decide)⟩
theorem RwsO.ext (h : RwsO w s ws) (x : Ext w w1) : RwsO w1 s ws := by
  obtain ⟨rs, h1, h2, h3⟩ := h
  exact ⟨rs, h1.ext x, h2, fun i r l hr hl => (h3 i r l hr hl).ext x⟩
theorem RwsO.nil : RwsO w ⟨none, 0, 0⟩ [] := ⟨[], OwnL.nil, rfl, fun i r l h => by simp at h⟩
theorem own_sep {α β : Type} {e e' k k' : Nat} {enc : α → List Value} {enc' : β → List Value} {s s' : Sl} {xs : List α} {ys : List β} (h : OwnL w e k enc s xs) (h' : OwnL w e' k' enc' s' ys) (he : e ≠ e') (b : Nat) (hb : s.blk = some b) : s'.blk ≠ some b := by
  intro hb'
  have nn : ∀ {q : Sl}, q.blk = some b → q.b ≠ none := fun hq e => by unfold Sl.blk at hq; rw [e] at hq; cases hq
  obtain ⟨g, cur, g1, g2, _⟩ := h.blk (nn hb)
  obtain ⟨g', cur', g1', g2', _⟩ := h'.blk (nn hb')
  have e1 : g = b := by unfold Sl.blk at hb; rw [g1] at hb; simpa using hb
  have e2 : g' = b := by unfold Sl.blk at hb'; rw [g1'] at hb'; simpa using hb'
  subst e1; subst e2
  rw [g2] at g2'
  cases g2'
  exact he rfl
theorem RwsO.app {β : Type} {e k : Nat} {enc : β → List Value} {q : Sl} {ys : List β} (h : RwsO w s ws) (hq : OwnL w e k enc q ys) (he : e ≠ t_string) (hs : ∀ b, s.blk = some b → q.blk ≠ some b) (x : Chg (fun b => q.blk = some b) w w1) : RwsO w1 s ws := by
  obtain ⟨rs, h1, h2, h3⟩ := h
  exact ⟨rs, h1.chg x hs, h2, fun i r l hr hl => (h3 i r l hr hl).chg x fun b hb => own_sep (h3 i r l hr hl) hq (fun e' => he e'.symm) b hb⟩
theorem RwsO.push {r s' : Sl} {l : List BA} {rs : List Sl} (h1 : OwnL w t_sl_string 1 slE s rs) (h2 : rs.length = ws.length) (h3 : ∀ (i : Nat) (r : Sl) (l : List BA), rs[i]? = some r → ws[i]? = some l → OwnL w t_string 1 strE r l) (hr : OwnL w t_string 1 strE r l) (hA : App w t_sl_string 1 s (rs.flatMap slE) 1 [r.v] s' w1) : RwsO w1 s' (ws ++ [l]) := by
  have kp : ∀ {r : Sl} {l : List BA}, OwnL w t_string 1 strE r l → OwnL w1 t_string 1 strE r l := fun h => h.chg hA.chg fun b hb => own_sep h h1 (by decide) b hb
  refine ⟨rs ++ [r], hA.ownL, by simp [h2], fun i r' l' hr' hl' => ?_⟩
  rcases Nat.lt_or_ge i rs.length with hi | hi
  · rw [List.getElem?_append_left hi] at hr'
    rw [List.getElem?_append_left (by omega)] at hl'
    exact kp (h3 i r' l' hr' hl')
  · have hi2 := gl hr'
    have hi : i = rs.length := by simp at hi2; omega
    subst hi
    rw [List.getElem?_append_right (Nat.le_refl _), Nat.sub_self] at hr'
    rw [List.getElem?_append_right (by omega), h2, Nat.sub_self] at hl'
    cases hr'; cases hl'
    exact kp hr
end
/-! Tables of words. -/
def wtD (ds : List Wd) : Int × Bool := dotF 0 (ds.map fun d => (d.2, ((d.1.size - 1 : Nat) : Int)))
/-- What is the matter with a table's word. -/
def errD (ds : List Wd) (k : Nat) : Int := match ds[k]? with
  | none => 0
  | some d => if d.1 = (⟨#[]⟩ : ByteArray) ∨ d.2 < 1 then 1 else if 65536 < d.1.size then 4 else if 0 < k ∧ ∃ p, ds[k - 1]? = some p ∧ bless p.1 d.1 = false then 6 else 0
def chkD (ds : List Wd) : Int × Int := match (List.range ds.length).find? fun k => decide (errD ds k ≠ 0) with
  | some k => ((k : Int), errD ds k)
  | none => if (wtD ds).2 = true then (-1, 0) else ((ds.length : Int), 5)
theorem chkD_bad {ds : List Wd} {k : Nat} (hk : k < ds.length) (h : errD ds k ≠ 0) (hb : ∀ j < k, errD ds j = 0) : chkD ds = ((k : Int), errD ds k) := by
  unfold chkD
  have : (List.range ds.length).find? (fun k => decide (errD ds k ≠ 0)) = some k := by
    rw [List.find?_range_eq_some]
    exact ⟨decide_eq_true h, List.mem_range.2 hk, fun j hj => by rw [hb j hj]; rfl⟩
  rw [this]
theorem chkD_none {ds : List Wd} (hb : ∀ j < ds.length, errD ds j = 0) : chkD ds = if (wtD ds).2 = true then (-1, 0) else ((ds.length : Int), 5) := by
  unfold chkD
  have : (List.range ds.length).find? (fun k => decide (errD ds k ≠ 0)) = none := by
    rw [List.find?_eq_none]
    intro j hj
    rw [hb j (List.mem_range.1 hj)]; decide
  rw [this]
theorem chkD_ok {ds : List Wd} (h : (chkD ds).2 = 0) : (∀ j < ds.length, errD ds j = 0) ∧ (wtD ds).2 = true := by
  have hb : ∀ j < ds.length, errD ds j = 0 := by
    intro j hj
    apply Decidable.byContradiction
    intro hne
    unfold chkD at h
    cases e : (List.range ds.length).find? fun k => decide (errD ds k ≠ 0) with
    | some k =>
      rw [e] at h
      have e1 := List.find?_some e
      exact absurd h (by simpa using e1)
    | none =>
      rw [List.find?_eq_none] at e
      exact e j (List.mem_range.2 hj) (decide_eq_true hne)
  refine ⟨hb, ?_⟩
  rw [chkD_none hb] at h
  by_cases e : (wtD ds).2 = true
  · exact e
  · rw [if_neg e] at h; exact absurd (show (5 : Int) = 0 from h) (by decide)
theorem errD_ok {ds : List Wd} {k : Nat} {d : Wd} (hd : ds[k]? = some d) (h : errD ds k = 0) : 1 ≤ d.2 ∧ d.1.size ≠ 0 ∧ d.1.size ≤ 65536 := by
  unfold errD at h
  rw [hd] at h
  by_cases h1 : d.1 = (⟨#[]⟩ : ByteArray) ∨ d.2 < 1
  · simp only [if_pos h1] at h; exact absurd h (by decide)
  · simp only [if_neg h1] at h
    by_cases h2 : 65536 < d.1.size
    · rw [if_pos h2] at h; exact absurd h (by decide)
    · have h3 : d.1.size ≠ 0 := size_ne.1 fun e => h1 (.inl e)
      exact ⟨by have : ¬ d.2 < 1 := fun e => h1 (.inr e)
                omega, h3, by omega⟩
theorem chkD_word {ds : List Wd} (h : (chkD ds).2 = 0) {d : Wd} (hd : d ∈ ds) : 1 ≤ d.2 ∧ d.1.size ≠ 0 ∧ d.1.size ≤ 65536 := by
  obtain ⟨k, hk⟩ := List.mem_iff_getElem?.1 hd
  exact errD_ok hk ((chkD_ok h).1 k (gl hk))
theorem dotF_le : ∀ (l : List (Int × Int)) (acc : Int), (dotF acc l).2 = true → acc ≤ 9223372036854775807 → acc + (l.map fun q => q.1 * q.2).sum ≤ 9223372036854775807
  | [], acc, _, h => by simpa using h
  | q :: l, acc, h, _ => by
    rw [dotF] at h
    by_cases h1 : (mulS q.1 q.2).2 = true
    · rw [if_pos h1] at h
      have e1 : (mulS q.1 q.2).1 = q.1 * q.2 := by
        unfold mulS at h1 ⊢
        split at h1
        · cases h1
        · rename_i hn; rw [if_neg hn]
      rw [e1] at h
      by_cases h2 : (addS acc (q.1 * q.2)).2 = true
      · rw [if_pos h2] at h
        have e2 : (addS acc (q.1 * q.2)).1 = acc + q.1 * q.2 ∧ acc + q.1 * q.2 ≤ 9223372036854775807 := by
          unfold addS at h2 ⊢
          split at h2
          · cases h2
          · rename_i hn; rw [if_neg hn]; exact ⟨rfl, by omega⟩
        rw [e2.1] at h
        have := dotF_le l _ h e2.2
        simp only [List.map_cons, List.sum_cons]; omega
      · rw [if_neg h2] at h; cases h
    · rw [if_neg h1] at h; cases h
theorem tot_wt (ms : List Mg) (p : Mg) : ∀ ds : List Wd, (∀ d ∈ ds, 1 ≤ d.2) → tot (wsOf ds ms) (csOf ds) p ≤ ((ds.map fun d => (d.2, ((d.1.size - 1 : Nat) : Int))).map fun q => q.1 * q.2).sum
  | [], _ => Int.le_refl _
  | d :: ds, h => by
    have h1 := tot_wt ms p ds fun x hx => h x (by simp [hx])
    have h2 := h d (by simp)
    have h3 := cntT_le p (splitT ms d.1)
    have h4 := splitT_len ms d.1
    have := Int.mul_le_mul_of_nonneg_left (show ((cntT (splitT ms d.1) p : Nat) : Int) ≤ ((d.1.size - 1 : Nat) : Int) by omega) (show 0 ≤ d.2 by omega)
    have e : tot (wsOf (d :: ds) ms) (csOf (d :: ds)) p = d.2 * (cntT (splitT ms d.1) p : Int) + tot (wsOf ds ms) (csOf ds) p := rfl
    rw [e]
    simp only [List.map_cons, List.sum_cons]
    omega
theorem tot_max {ds : List Wd} (h : (chkD ds).2 = 0) (ms : List Mg) (p : Mg) : tot (wsOf ds ms) (csOf ds) p ≤ 9223372036854775807 := by
  have h1 := dotF_le _ _ (chkD_ok h).2 (by decide)
  have h2 := tot_wt ms p ds fun d hd => (chkD_word h hd).1
  omega
def posD (ds : List Wd) : Nat := (ds.map fun d => d.1.size).sum
theorem sum_mem {l : List Nat} {x : Nat} (h : x ∈ l) : x ≤ l.sum := by
  induction l with
  | nil => cases h
  | cons y l ih =>
    rw [List.sum_cons]
    rcases List.mem_cons.1 h with rfl | h
    · omega
    · have := ih h; omega
theorem sum_take_le (l : List Nat) (k : Nat) : (l.take k).sum ≤ l.sum := by
  have : (l.take k ++ l.drop k).sum = l.sum := by rw [List.take_append_drop]
  rw [List.sum_append] at this; omega
theorem posT_mem {ws : List (List BA)} {l : List BA} (h : l ∈ ws) : l.length ≤ posT ws := sum_mem (List.mem_map.2 ⟨l, h, rfl⟩)
theorem posT_take {ws : List (List BA)} {k : Nat} {l : List BA} (h : ws[k]? = some l) : posT (ws.take (k + 1)) = posT (ws.take k) + l.length := by
  rw [tk h]; simp [posT]
theorem posT_take_le (ws : List (List BA)) (k : Nat) : posT (ws.take k) ≤ posT ws := by
  unfold posT; rw [List.map_take]; exact sum_take_le _ _
theorem posT_of (ms : List Mg) (ds : List Wd) : posT (wsOf ds ms) ≤ posD ds := by
  induction ds with
  | nil => exact Nat.le_refl _
  | cons d ds ih =>
    have h := splitT_len ms d.1
    have e1 : posT (wsOf (d :: ds) ms) = (splitT ms d.1).length + posT (wsOf ds ms) := rfl
    have e2 : posD (d :: ds) = d.1.size + posD ds := rfl
    omega
theorem posT_join {m : Mg} (ms : List Mg) : ∀ ds : List Wd, posT (wsOf ds (ms ++ [m])) ≤ posT (wsOf ds ms) ∧ ((∃ l ∈ wsOf ds ms, adjT m l) → posT (wsOf ds (ms ++ [m])) < posT (wsOf ds ms))
  | [] => ⟨Nat.le_refl _, fun ⟨l, hl, _⟩ => nomatch hl⟩
  | d :: ds => by
    obtain ⟨i1, i2⟩ := posT_join (m := m) ms ds
    have e1 : posT (wsOf (d :: ds) (ms ++ [m])) = (joinT m (splitT ms d.1)).length + posT (wsOf ds (ms ++ [m])) := by
      rw [← splitT_snoc]; rfl
    have e2 : posT (wsOf (d :: ds) ms) = (splitT ms d.1).length + posT (wsOf ds ms) := rfl
    have h := joinT_len m (splitT ms d.1)
    refine ⟨by omega, ?_⟩
    rintro ⟨l, hl, ha⟩
    rcases List.mem_cons.1 (show l ∈ splitT ms d.1 :: wsOf ds ms from hl) with rfl | hl
    · have := joinT_less ha; omega
    · have := i2 ⟨l, hl, ha⟩; omega
section
variable {w w1 : World}
theorem k_ref08_Positions {s : Sl} {ds : List Wd} {R : Int → World → Prop} (hx : Rows w 2 wdE s ds) (hz : posD ds ≤ 9223372036854775807) (h : R ((posD ds : Nat) : Int) w) :
    Calls PP n_ref08_Positions #[s.v] w fun e w' => ∃ r : Int, e = .returned (.int .i64 r) ∧ R r w' := by
  refine vc_ref08_Positions ?_
  unfold VC_ref08_Positions
  have l1 := hx.len
  have l3 := hx.lim
  refine ⟨fun acc i W => ∃ k : Nat, i = k ∧ k ≤ ds.length ∧ W = w ∧ acc = ((posD (ds.take k) : Nat) : Int), fun _ i _ => (ds.length - i).toNat, ⟨0, rfl, by omega, rfl, rfl⟩, ?_⟩
  rintro _ _ W ⟨k, rfl, hk, rfl, rfl⟩
  refine ⟨fun hl => ?_, fun hl => ?_⟩
  · obtain ⟨g, o, q, hg, hq, hc1, hc2⟩ := hx.wd (i := k) (by omega)
    have e : posD (ds.take (k + 1)) = posD (ds.take k) + q.1.size := by rw [tk hq]; simp [posD]
    have e2 : posD (ds.take (k + 1)) ≤ posD ds := by
      unfold posD; rw [List.map_take]; exact sum_take_le _ _
    refine ⟨k, rfl, by omega, g, o, hg, q.1, hc1, _, rfl, _, rfl, ⟨k + 1, by rw [wr64 (by omega)]; simp, by omega, rfl, by rw [wr64 (by omega)]; omega⟩, by dsimp only; rw [wr64 (by omega)]; omega⟩
  · rw [List.take_of_length_le (by omega)]; exact h
theorem k_ref08_Weight {s : Sl} {ds : List Wd} {R : Int → Bool → World → Prop} (hx : Rows w 2 wdE s ds) (hi : ∀ d ∈ ds, I64 d.2) (hz : ∀ d ∈ ds, d.1.size ≤ 1099511627776) (h : ∀ w', Ext w w' → R (wtD ds).1 (wtD ds).2 w') :
    Calls PP n_ref08_Weight #[s.v] w fun e w' => ∃ (r : Int) (q : Bool), e = .returned (.tuple #[.int .i64 r, .bool q]) ∧ R r q w' := by
  refine vc_ref08_Weight ?_
  unfold VC_ref08_Weight
  have l1 := hx.len
  have l3 := hx.lim
  refine ⟨fun acc i W => ∃ k : Nat, i = k ∧ k ≤ ds.length ∧ Ext w W ∧ I64 acc ∧ dotF acc ((ds.drop k).map fun d => (d.2, ((d.1.size - 1 : Nat) : Int))) = wtD ds, fun _ i _ => (ds.length - i).toNat, ⟨0, rfl, by omega, Chg.refl _, ⟨by omega, by omega⟩, rfl⟩, ?_⟩
  rintro acc _ W ⟨k, rfl, hk, X, ha, hd⟩
  refine ⟨fun hl => ?_, fun hl => ?_⟩
  · obtain ⟨g, o, q, hg, hq, hc1, hc2⟩ := (hx.ext X).wd (i := k) (by omega)
    have hq1 := hz q (gm hq)
    rw [drop_at hq, List.map_cons, dotF] at hd
    have em : max 0 (IntKind.wrap .i64 (((q.1.size : Nat) : Int) - 1)) = ((q.1.size - 1 : Nat) : Int) := by rw [wr64 (by omega)]; omega
    refine ⟨k, rfl, by omega, g, o, hg, q.2, hc2, q.1, hc1, _, rfl, fun w20 x20 => ?_⟩
    rw [em]
    refine k_ref06_Mul (hi q (gm hq)) ⟨by omega, by omega⟩ ⟨x20.cell hc2, x20.cell hc1, fun h1 => ?_, fun h1 => ?_⟩
    · rw [if_pos h1] at hd
      refine k_ref06_Add ha mulS_bd ⟨fun h2 => ⟨_, rfl, ⟨k + 1, by rw [wr64 (by omega)]; simp, by omega, X.tr x20, addS_bd, by rw [if_pos h2] at hd; exact hd⟩, by rw [wr64 (by omega)]; dsimp only; omega⟩, fun h2 => ?_⟩
      rw [if_neg (by rw [h2]; decide)] at hd
      have := h w20 (X.tr x20)
      rw [← hd] at this; exact this
    · rw [if_neg (by rw [h1]; decide)] at hd
      have := h w20 (X.tr x20)
      rw [← hd] at this; exact this
  · rw [List.drop_eq_nil_of_le (by omega)] at hd
    have := h W X
    rw [← hd] at this; exact this
theorem k_ref08_Check {s : Sl} {ds : List Wd} {R : Int → Int → World → Prop} (hx : Rows w 2 wdE s ds) (hi : ∀ d ∈ ds, I64 d.2) (hz : ∀ d ∈ ds, d.1.size ≤ 1099511627776) (h : ∀ w', Ext w w' → R (chkD ds).1 (chkD ds).2 w') :
    Calls PP n_ref08_Check #[s.v] w fun e w' => ∃ (r : Int) (q : Int), e = .returned (.tuple #[.int .i64 r, .int .i64 q]) ∧ R r q w' := by
  refine vc_ref08_Check ?_
  unfold VC_ref08_Check
  have l1 := hx.len
  have l3 := hx.lim
  refine ⟨fun i W => ∃ k : Nat, i = k ∧ k ≤ ds.length ∧ Ext w W ∧ ∀ j < k, errD ds j = 0, fun i _ => (ds.length - i).toNat, ⟨0, rfl, by omega, Chg.refl _, fun j hj => absurd hj (Nat.not_lt_zero _)⟩, ?_⟩
  rintro _ W ⟨k, rfl, hk, X, hb⟩
  refine ⟨fun hl => ?_, fun hl => ?_⟩
  · obtain ⟨g, o, q, hg, hq, hc1, hc2⟩ := (hx.ext X).wd (i := k) (by omega)
    have hq1 := hz q (gm hq)
    have bad : ∀ {e : Int} {w2 : World}, errD ds k = e → e ≠ 0 → Ext W w2 → R ((k : Nat) : Int) e w2 := by
      intro e w2 he hn x2
      have := h w2 (X.tr x2)
      rw [chkD_bad (gl hq) (by rw [he]; exact hn) hb, he] at this
      exact this
    have he : errD ds k = if q.1 = (⟨#[]⟩ : ByteArray) ∨ q.2 < 1 then 1 else if 65536 < q.1.size then 4 else if 0 < k ∧ ∃ p, ds[k - 1]? = some p ∧ bless p.1 q.1 = false then 6 else 0 := by
      unfold errD; rw [hq]
    refine ⟨fun j W' => W' = W ∧ (j = true ↔ (q.1 = (⟨#[]⟩ : ByteArray) ∨ q.2 < 1)), ?_, k, rfl, by omega, g, o, hg, q.1, hc1, fun h1 => ⟨rfl, by simp [h1]⟩, fun h1 => ⟨q.2, hc2, rfl, by simp [h1]⟩⟩
    rintro j W' ⟨rfl, hj⟩
    refine ⟨fun h1 => bad (by rw [he, if_pos (hj.1 h1)]) (by decide) (Chg.refl _), fun h1 => ?_⟩
    have hn1 : ¬ (q.1 = (⟨#[]⟩ : ByteArray) ∨ q.2 < 1) := fun e => by rw [hj.2 e] at h1; cases h1
    rw [if_neg hn1] at he
    refine ⟨k, rfl, by omega, g, o, hg, q.1, hc1, fun h2 => bad (by rw [he, if_pos (by omega)]) (by decide) (Chg.refl _), fun h2 => ?_⟩
    rw [if_neg (by omega)] at he
    refine ⟨fun j W2 => Ext W' W2 ∧ (j = true ↔ 0 < k ∧ ∃ p, ds[k - 1]? = some p ∧ bless p.1 q.1 = false), ?_, fun h3 => ?_, fun h3 w40 x40 => ⟨x40, by simp; omega⟩⟩
    · rintro j W2 ⟨x2, hj2⟩
      refine ⟨fun h3 => bad (by rw [he, if_pos (hj2.1 h3)]) (by decide) x2, fun h3 => ⟨_, rfl, ⟨k + 1, by rw [wr64 (by omega)]; simp, by omega, X.tr x2, fun j hj => ?_⟩, by rw [wr64 (by omega)]; dsimp only; omega⟩⟩
      rcases Nat.lt_or_ge j k with h4 | h4
      · exact hb j h4
      · have : j = k := by omega
        subst this
        rw [he, if_neg]
        intro e; rw [hj2.2 e] at h3; cases h3
    · obtain ⟨g', o', p, hg', hp, hd1, hd2⟩ := (hx.ext X).wd (i := k - 1) (by omega)
      rw [hg] at hg'; cases hg'
      have hp1 := hz p (gm hp)
      refine ⟨_, rfl, k - 1, by rw [wr64 (by omega)]; omega, by omega, p.1, hd1, fun w40 x40 => k_ref01_Less (by omega) fun w50 x50 => ⟨x40.tr x50, ?_⟩⟩
      constructor
      · intro h4
        exact ⟨by omega, p, hp, by simpa using h4⟩
      · rintro ⟨_, p', hp', h4⟩
        rw [hp] at hp'; cases hp'
        rw [h4]; rfl
  · have hb' : ∀ j < ds.length, errD ds j = 0 := fun j hj => hb j (by omega)
    refine k_ref08_Weight (hx.ext X) hi hz fun w58 x58 => ⟨fun h1 => ?_, fun h1 => ?_⟩
    · have := h w58 (X.tr x58)
      rw [chkD_none hb', if_pos h1] at this; exact this
    · have := h w58 (X.tr x58)
      rw [chkD_none hb', if_neg (by rw [h1]; decide)] at this
      rw [l1]; exact this
end
end Go.Proofs.Ytchjcjocihckpaa.G
