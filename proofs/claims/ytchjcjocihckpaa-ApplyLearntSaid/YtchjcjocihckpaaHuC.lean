/- Contracts: words by merges, by the document's answer. -/
import Derived.Test.YtchjcjocihckpaaHaC
import Derived.Test.YtchjcjocihckpaaPmC
namespace Go.Proofs.Ytchjcjocihckpaa.G
open Go Go.RowKit
theorem ext_one {t : BA} {k : Nat} (h : k < t.size) : t.extract k (k + 1) = one (t.data.toList.getD k 0) := by
  have hs : (t.extract k (k + 1)).size = 1 := by rw [ext_size (by omega)]; omega
  rw [one_of_size hs]
  congr 1
  have e : (t.extract k (k + 1)).data.toList = (t.data.toList.take (k + 1)).drop k := by
    rw [ByteArray.data_extract, Array.toList_extract, List.extract_eq_take_drop, ← List.drop_take]
  rw [e, List.getD_eq_getElem?_getD, List.getElem?_drop, List.getElem?_take_of_lt (by omega), ba_at (by omega)]
  rfl
theorem drop_at {α : Type} {l : List α} {i : Nat} {x : α} (h : l[i]? = some x) : l.drop i = x :: l.drop (i + 1) := by
  obtain ⟨hi, e⟩ := List.getElem?_eq_some_iff.1 h
  rw [List.drop_eq_getElem_cons hi, e]
section
variable {w : World}
theorem k_ref16_Texts {t : BA} {R : Sl → World → Prop} (ht : t.size ≤ 1099511627776) (h : ∀ r w', Ext w w' → OwnL w' t_string 1 strE r (bytesT t) → (∀ c, r.blk = some c → w.heap.size ≤ c) → R r w') :
    Calls PP n_ref16_Texts #[.string t] w fun e w' => ∃ r : Sl, e = .returned r.v ∧ R r w' := by
  refine vc_ref16_Texts ?_
  unfold VC_ref16_Texts
  have hmax : maxLen = 9223372036854775807 := rfl
  have hbl : (bytesT t).length = t.size := by simp [bytesT, ba_len]
  refine ⟨fun r i W => ∃ k : Nat, i = k ∧ k ≤ t.size ∧ Ext w W ∧ OwnL W t_string 1 strE r ((bytesT t).take k) ∧ ∀ c, r.blk = some c → w.heap.size ≤ c, fun _ i _ => (t.size - i).toNat, ⟨0, rfl, by omega, Chg.refl _, OwnL.nil, fun c hc => nomatch hc⟩, ?_⟩
  rintro r _ W ⟨k, rfl, hk, x, ho, hf⟩
  have hn := ho.len strE_len (by decide)
  rw [List.length_take, hbl] at hn
  refine ⟨fun hl => ?_, fun hl => ?_⟩
  · have hk' : k < t.size := by omega
    refine ⟨_, rfl, k, rfl, k + 1, by rw [wr64 (by omega)]; simp, ⟨by omega, by omega⟩, _, ho, by omega, fun s' w' hA => ⟨_, rfl, ⟨k + 1, by rw [wr64 (by omega)]; simp, by omega, Chg.of_new x hA.chg hf, ?_, fun c hc => ?_⟩, by rw [wr64 (by omega)]; dsimp only; omega⟩⟩
    · have e : (bytesT t)[k]? = some (t.extract k (k + 1)) := by
        rw [ext_one hk']; unfold bytesT; rw [List.getElem?_map, ba_at hk']; rfl
      rw [tk e]; exact hA.ownL
    · rcases hA.lt hc with h | h
      · exact hf c h
      · exact Nat.le_trans x.size h
  · rw [List.take_of_length_le (by omega)] at ho
    exact h r W x ho hf
theorem k_ref16_Join {s : Sl} {ws : List BA} {m : Mg} {R : Sl → World → Prop} (hx : Rows w 1 strE s ws) (hl : ws.length ≤ 1099511627776) (hm : m.1.size + m.2.size ≤ 9223372036854775807)
    (h : ∀ r w', Ext w w' → OwnL w' t_string 1 strE r (joinT m ws) → (∀ c, r.blk = some c → w.heap.size ≤ c) → R r w') :
    Calls PP n_ref16_Join #[s.v, .agg #[.string m.1, .string m.2]] w fun e w' => ∃ r : Sl, e = .returned r.v ∧ R r w' := by
  refine vc_ref16_Join (a1_0 := m.1) (a1_1 := m.2) ?_
  unfold VC_ref16_Join
  have hmax : maxLen = 9223372036854775807 := rfl
  have l1 := hx.len
  intro b w2 hP
  have hx2 := hx.ext hP.ext
  refine ⟨fun r i W => ∃ (k : Nat) (acc : List BA), i = k ∧ k ≤ ws.length ∧ acc.length ≤ k ∧ acc ++ joinT m (ws.drop k) = joinT m ws ∧ Ext w2 W ∧ OwnL W t_string 1 strE r acc ∧ (∀ c, r.blk = some c → w2.heap.size ≤ c), fun _ i _ => (ws.length - i).toNat, ⟨0, [], rfl, by omega, by simp, rfl, Chg.refl _, OwnL.nil, fun c hc => nomatch hc⟩, ?_⟩
  rintro r _ W ⟨k, acc, rfl, hk, hak, hj, x, ho, hf⟩
  have hn := ho.len strE_len (by decide)
  have hnb : r.blk ≠ some b := fun e => by have := hf b e; have := hP.lt; omega
  refine ⟨fun hlt => ?_, fun hge => ?_⟩
  · obtain ⟨g, o, u, hg, hu, hc⟩ := (hx2.ext x).str (i := k) (by omega)
    have step : ∀ (W' : World) (acc' : List BA) (k' : Nat) (s' : Sl) (w' : World) (v : BA), Ext w2 W' → OwnL W' t_string 1 strE r acc → App W' t_string 1 r (acc.flatMap strE) 1 [.string v] s' w' → acc' = acc ++ [v] → Ext w2 w' ∧ OwnL w' t_string 1 strE s' acc' ∧ ∀ c, s'.blk = some c → w2.heap.size ≤ c := by
      rintro W' acc' k' s' w' v x' ho' hA rfl
      refine ⟨Chg.of_new x' hA.chg hf, hA.ownL, fun c hc => ?_⟩
      rcases hA.lt hc with h | h
      · exact hf c h
      · exact Nat.le_trans x'.size h
    refine ⟨fun j W' => Ext w2 W' ∧ OwnL W' t_string 1 strE r acc ∧ (j = true → ∃ v, ws[k + 1]? = some v ∧ u = m.1 ∧ v = m.2) ∧ (j = false → ∀ v, ws[k + 1]? = some v → ¬ (u = m.1 ∧ v = m.2)), ?_, _, rfl, fun h1 => ?_, fun h1 w21 x21 => ⟨x.tr x21, ho.ext x21, (fun h => nomatch h), fun _ v hv => ?_⟩⟩
    · rintro j W' ⟨x', ho', hjt, hjf⟩
      refine ⟨fun hj1 => ⟨hm, _, ho', by omega, hnb, fun s' w' hA => ?_⟩, fun hj1 => ?_⟩
      · obtain ⟨v, hv, e1, e2⟩ := hjt hj1
        obtain ⟨x2', ho2, hf2⟩ := step W' _ 0 s' w' _ x' ho' hA rfl
        have hkv := gl hv
        refine ⟨_, rfl, ⟨k + 2, _, by rw [wr64 (by omega)]; simp, by omega, by simp; omega, ?_, x2', ho2, hf2⟩, by rw [wr64 (by omega)]; dsimp only; omega⟩
        rw [drop_at hu, drop_at hv, joinT_hit ⟨e1, e2⟩] at hj
        rw [List.append_assoc]; exact hj
      · obtain ⟨g', o', u', hg', hu', hc'⟩ := (hx2.ext x').str (i := k) (by omega)
        rw [hu] at hu'; cases hu'
        refine ⟨k, rfl, by omega, g', o', hg', u, hc', _, ho', by omega, hnb, fun s' w' hA => ?_⟩
        obtain ⟨x2', ho2, hf2⟩ := step W' _ 0 s' w' _ x' ho' hA rfl
        refine ⟨_, rfl, ⟨k + 1, _, by rw [wr64 (by omega)]; simp, by omega, by simp; omega, ?_, x2', ho2, hf2⟩, by rw [wr64 (by omega)]; dsimp only; omega⟩
        rw [drop_at hu] at hj
        cases e : ws[k + 1]? with
        | none =>
          have hd : ws.drop (k + 1) = [] := List.drop_eq_nil_of_le (by rw [List.getElem?_eq_none_iff] at e; exact e)
          rw [hd] at hj ⊢
          rw [List.append_assoc]; exact hj
        | some v =>
          rw [drop_at e, joinT_miss (hjf hj1 v e)] at hj
          rw [List.append_assoc, drop_at e]; exact hj
    · rw [wr64 (by omega)] at h1
      refine ⟨k, rfl, by omega, g, o, hg, u, hc, fun e1 => ?_, fun hne w21 x21 => ⟨x.tr x21, ho.ext x21, (fun h => nomatch h), fun _ v hv h2 => hne h2.1⟩⟩
      obtain ⟨g', o', v, hg', hv, hc'⟩ := (hx2.ext x).str (i := k + 1) (by omega)
      rw [hg] at hg'; cases hg'
      refine ⟨_, rfl, k + 1, by rw [wr64 (by omega)]; simp, by omega, v, hc', fun w21 x21 => ⟨x.tr x21, ho.ext x21, fun ht => ⟨v, hv, e1, of_decide_eq_true ht⟩, fun hf v' hv' h2 => ?_⟩⟩
      rw [hv] at hv'; cases hv'
      exact absurd h2.2 (of_decide_eq_false hf)
    · rw [wr64 (by omega)] at h1
      have := gl hv; omega
  · rw [List.drop_eq_nil_of_le (by omega)] at hj
    simp only [joinT, List.append_nil] at hj
    exact h r W (hP.ext.tr x) (hj ▸ ho) fun c hc => Nat.le_trans hP.ext.size (hf c hc)
theorem k_ref20_Split {s : Sl} {ms : List Mg} {t : BA} {R : Sl → World → Prop} (hx : Rows w 2 mgE s ms) (hm : Sm ms) (hlen : ms.length ≤ 1099511627776) (ht : t.size ≤ 1099511627776)
    (h : ∀ r w', Ext w w' → OwnL w' t_string 1 strE r (splitT ms t) → (∀ c, r.blk = some c → w.heap.size ≤ c) → R r w') :
    Calls PP n_ref20_Split #[s.v, .string t] w fun e w' => ∃ r : Sl, e = .returned r.v ∧ R r w' := by
  refine vc_ref20_Split ?_
  unfold VC_ref20_Split
  have l1 := hx.len
  refine k_ref16_Texts ht fun r w2 x2 ho hf => ?_
  refine ⟨fun r i W => ∃ k : Nat, i = k ∧ k ≤ ms.length ∧ Ext w W ∧ OwnL W t_string 1 strE r (splitT (ms.take k) t) ∧ (∀ c, r.blk = some c → w.heap.size ≤ c), fun _ i _ => (ms.length - i).toNat, ⟨0, rfl, by omega, x2, ho, hf⟩, ?_⟩
  rintro r _ W ⟨k, rfl, hk, x, ho, hf⟩
  refine ⟨fun hl => ?_, fun hl => ?_⟩
  · obtain ⟨g, o, q, hg, hq, hc1, hc2⟩ := (hx.ext x).mg (i := k) (by omega)
    have hqs := hm q (gm hq)
    have hl2 := splitT_len (ms.take k) t
    refine ⟨k, rfl, by omega, g, o, hg, q.1, q.2, ⟨hc1, hc2, trivial⟩, k_ref16_Join (m := q) (ho.rows strE_len (by decide)) (by omega) (by omega) fun r' w' x' ho' hf' => ⟨_, rfl, ⟨k + 1, by rw [wr64 (by omega)]; simp, by omega, x.tr x', ?_, fun c hc => Nat.le_trans x.size (hf' c hc)⟩, by rw [wr64 (by omega)]; dsimp only; omega⟩⟩
    rw [tk hq, splitT_snoc]; exact ho'
  · rw [List.take_of_length_le (by omega)] at ho
    exact h r W x ho hf
theorem symM_at {ms : List Mg} {s : BA} (hs : s.size ≠ 1) {k : Nat} {m : Mg} (hm : ms[k]? = some m) (he : m.tx = s) (hn : ((ms.take k).any fun q => decide (q.tx = s)) = false) : symM ms s = ((256 + k : Nat) : Int) := by
  unfold symM
  rw [if_neg hs]
  have : ms.findIdx? (fun m => decide (m.tx = s)) = some k := by
    rw [List.findIdx?_eq_some_iff_getElem]
    obtain ⟨hl, e⟩ := List.getElem?_eq_some_iff.1 hm
    refine ⟨hl, by rw [e]; exact decide_eq_true he, fun j hj => ?_⟩
    rw [List.any_eq_false] at hn
    have hj2 : ms[j]? = some ms[j] := List.getElem?_eq_getElem (by omega)
    exact hn _ (List.mem_of_getElem? (i := j) (by rw [List.getElem?_take_of_lt hj]; exact hj2))
  rw [this]
theorem k_ref20_Symbol {s : Sl} {ms : List Mg} {t : BA} {R : Int → World → Prop} (hx : Rows w 2 mgE s ms) (hm : Sm ms) (hlen : ms.length ≤ 1099511627776) (h : ∀ w', Ext w w' → R (symM ms t) w') :
    Calls PP n_ref20_Symbol #[s.v, .string t] w fun e w' => ∃ r : Int, e = .returned (.int .i64 r) ∧ R r w' := by
  refine vc_ref20_Symbol ?_
  unfold VC_ref20_Symbol
  have l1 := hx.len
  refine ⟨fun h1 => ⟨by omega, _, rfl, ?_⟩, fun h1 => ?_⟩
  · have hb := toNat_lt (t.data.toList.getD 0 0)
    rw [wr64 (by omega)]
    have := h w (Chg.refl _)
    unfold symM at this
    rw [if_pos (by omega)] at this; exact this
  · refine ⟨fun i W => ∃ k : Nat, i = k ∧ k ≤ ms.length ∧ Ext w W ∧ ((ms.take k).any fun q => decide (q.tx = t)) = false, fun i _ => (ms.length - i).toNat, ⟨0, rfl, by omega, Chg.refl _, by simp⟩, ?_⟩
    rintro _ W ⟨k, rfl, hk, x, hn⟩
    refine ⟨fun hl => ?_, fun hl => ?_⟩
    · obtain ⟨g, o, q, hg, hq, hc1, hc2⟩ := (hx.ext x).mg (i := k) (by omega)
      have hqs := hm q (gm hq)
      refine ⟨k, rfl, by omega, g, o, hg, q.1, hc1, q.2, hc2, by omega, fun he => ⟨_, rfl, fun w12 x12 => ?_⟩, fun hne => ⟨_, rfl, fun w12 x12 => ⟨⟨k + 1, by rw [wr64 (by omega)]; simp, by omega, x.tr x12, ?_⟩, by rw [wr64 (by omega)]; dsimp only; omega⟩⟩⟩
      · rw [wr64 (by omega)]
        have := h w12 (x.tr x12)
        rw [symM_at (by omega) hq he hn] at this
        have e : ((256 + k : Nat) : Int) = 256 + (k : Int) := by omega
        rw [e] at this; exact this
      · rw [tk hq, List.any_append, hn]; simpa using hne
    · rw [List.take_of_length_le (by omega)] at hn
      have := h W x
      unfold symM at this
      rw [if_neg (by omega)] at this
      have e : ms.findIdx? (fun m => decide (m.tx = t)) = none := by
        rw [List.findIdx?_eq_none_iff]; rw [List.any_eq_false] at hn; intro m hm'; simpa using hn m hm'
      rw [e] at this; exact this
theorem k_ref20_Encode {s : Sl} {ms : List Mg} {t : BA} {R : Sl → World → Prop} (hx : Rows w 2 mgE s ms) (hm : Sm ms) (hlen : ms.length ≤ 1099511627776) (ht : t.size ≤ 1099511627776)
    (h : ∀ r w', Ext w w' → OwnL w' t_int 1 intE r ((splitT ms t).map (symM ms)) → (∀ c, r.blk = some c → w.heap.size ≤ c) → R r w') :
    Calls PP n_ref20_Encode #[s.v, .string t] w fun e w' => ∃ r : Sl, e = .returned r.v ∧ R r w' := by
  refine vc_ref20_Encode ?_
  unfold VC_ref20_Encode
  have hmax : maxLen = 9223372036854775807 := rfl
  have hsl := splitT_len ms t
  refine k_ref20_Split hx hm hlen ht fun r w2 x2 ho hf => ?_
  have hrn := ho.len strE_len (by decide)
  refine ⟨fun o i W => ∃ k : Nat, i = k ∧ k ≤ (splitT ms t).length ∧ Ext w2 W ∧ OwnL W t_int 1 intE o (((splitT ms t).take k).map (symM ms)) ∧ ∀ c, o.blk = some c → w2.heap.size ≤ c, fun _ i _ => ((splitT ms t).length - i).toNat, ⟨0, rfl, by omega, Chg.refl _, OwnL.nil, fun c hc => nomatch hc⟩, ?_⟩
  rintro o _ W ⟨k, rfl, hk, x, hoo, hof⟩
  have hon := hoo.len intE_len (by decide)
  rw [List.length_map, List.length_take] at hon
  refine ⟨fun hl => ?_, fun hl => ?_⟩
  · obtain ⟨g, og, u, hg, hu, hc⟩ := ((ho.ext x).rows strE_len (by decide)).str (i := k) (by omega)
    refine ⟨k, rfl, by omega, g, og, hg, u, hc, k_ref20_Symbol (hx.ext (x2.tr x)) hm hlen fun w23 x23 => ⟨_, hoo.ext x23, by omega, fun s' w' hA => ⟨_, rfl, ⟨k + 1, by rw [wr64 (by omega)]; simp, by omega, Chg.of_new (x.tr x23) hA.chg hof, ?_, fun c hc => ?_⟩, by rw [wr64 (by omega)]; dsimp only; omega⟩⟩⟩
    · rw [tk hu, List.map_append]; exact hA.ownL
    · rcases hA.lt hc with h | h
      · exact hof c h
      · exact Nat.le_trans (x.tr x23).size h
  · rw [List.take_of_length_le (by omega)] at hoo
    exact h o W (x2.tr x) hoo fun c hc => Nat.le_trans x2.size (hof c hc)
end
end Go.Proofs.Ytchjcjocihckpaa.G
