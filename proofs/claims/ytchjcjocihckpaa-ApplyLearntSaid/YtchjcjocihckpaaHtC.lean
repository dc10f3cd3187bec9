/- Contracts: words by a coder. -/
import Derived.Test.YtchjcjocihckpaaHsC
namespace Go.Proofs.Ytchjcjocihckpaa.G
open Go Go.RowKit
/-- Merges whose pairs aren't there change nothing. -/
theorem cod_skip {ms : List Mg} {js : List Jd} {l : List Int} {t : BA} (h : Cod ms js) (hv : Val js l) (k0 : Nat) : ∀ d, k0 + d ≤ ms.length → (∀ (i : Nat) (j : Jd), js[i]? = some j → k0 ≤ i → i < k0 + d → cntP l (j.1, j.2.1) = 0) → txs js l = splitT (ms.take k0) t → txs js l = splitT (ms.take (k0 + d)) t
  | 0, _, _, h0 => h0
  | d + 1, hd, hc, h0 => by
    have ih := cod_skip h hv k0 d (by omega) (fun i j hj h1 h2 => hc i j hj h1 (by omega)) h0
    have hlt : k0 + d < ms.length := by omega
    have hm : ms[k0 + d]? = some ms[k0 + d] := List.getElem?_eq_getElem hlt
    obtain ⟨a, b, g1, g2, g3⟩ := h.get _ _ hm
    have hz := hc _ _ g1 (by omega) (by omega)
    have hj := (h.join g1 g2 g3 l hv).1
    rw [joinI_none hz] at hj
    rw [show k0 + (d + 1) = k0 + d + 1 by omega, tk hm, splitT_snoc, ← ih, hj]
section
variable {w w1 : World} {b q : Nat} {s : Sl} {xs : List Cl} {l : List (Nat × Int)} {js : List Jd} {ms : List Mg}
theorem k_apply_next {bh : Int} {k0 : Nat} {R : Int → Int → Int → Bool → World → Prop} (hC : Cdr w b ms js) (hS : SqD w q s xs l) (hl : l.length ≤ 137438953472) (hbh : ∀ i : Nat, bh < ((256 + i : Nat) : Int) ↔ k0 ≤ i)
    (h0 : (∀ (i : Nat) (j : Jd), js[i]? = some j → k0 ≤ i → cntP (l.map (·.2)) (j.1, j.2.1) = 0) → ∀ w', Ext w w' → R 0 0 0 false w')
    (h1 : ∀ (i : Nat) (j : Jd), js[i]? = some j → k0 ≤ i → (∀ (i' : Nat) (j' : Jd), js[i']? = some j' → k0 ≤ i' → i' < i → cntP (l.map (·.2)) (j'.1, j'.2.1) = 0) → ∀ w', Ext w w' → R j.1 j.2.1 ((256 + i : Nat) : Int) true w') :
    Calls PP n_apply_Coder_next #[.pointer (some ⟨b, 0, none⟩), .pointer (some ⟨q, 0, none⟩), .int .i64 bh] w fun e w' => ∃ r0 r1 r2 : Int, ∃ r3 : Bool, e = .returned (.tuple #[.agg #[.int .i64 r0, .int .i64 r1], .int .i64 r2, .bool r3]) ∧ R r0 r1 r2 r3 w' := by
  refine vc_apply_Coder_next ?_
  unfold VC_apply_Coder_next
  intro b1 w2 hP1 b5 w6 hP5 w10 c10
  have x10 : Ext w w10 := hP1.ext.tr (hP5.then c10)
  have b1l : b1 < w10.heap.size := by have := hP1.lt; have := hP5.ext.size; have := c10.size; omega
  have b5l : b5 < w10.heap.size := by have := hP5.lt; have := c10.size; omega
  have b1f : w.heap.size ≤ b1 := hP1.fresh
  have b5f : w2.heap.size ≤ b5 := hP5.fresh
  have hw2 := hP1.ext.size
  refine k_seq_Pairs (hS.ext x10) (by omega) fun r w13 L x13 ho hch hLl hrf => ⟨x13.keep b1l, x13.keep b5l, ?_⟩
  have hrn := ho.len chE_len (by decide)
  have hC13 := hC.ext (x10.tr x13)
  have hCod := hC.cod
  have hjl := hCod.len
  obtain ⟨tb, S, m, es, hD, -⟩ := hC13
  let Bst : Nat → Int → Int → Int → Prop := fun k best pa pb => (best = 0 ∧ pa = 0 ∧ pb = 0 ∧ ∀ e ∈ L.take k, ∀ i : Nat, byM js e.1 = some ((256 + i : Nat) : Int) → ¬ k0 ≤ i) ∨
    ∃ (i : Nat) (j : Jd), js[i]? = some j ∧ k0 ≤ i ∧ best = ((256 + i : Nat) : Int) ∧ pa = j.1 ∧ pb = j.2.1 ∧ ∀ e ∈ L.take k, ∀ i' : Nat, byM js e.1 = some ((256 + i' : Nat) : Int) → k0 ≤ i' → i ≤ i'
  refine ⟨fun best i pa pb W => ∃ k : Nat, i = k ∧ k ≤ L.length ∧ Chg (fun c => c = b5) w13 W ∧ Bst k best pa pb, fun _ i _ _ _ => (L.length - i).toNat, ⟨0, rfl, by omega, Chg.refl _, .inl ⟨rfl, rfl, rfl, by simp⟩⟩, ?_⟩
  rintro best _ pa pb W ⟨k, rfl, hk, cW, hB⟩
  have hbD : b < w13.heap.size := lt_of_blk hD.blk
  have b5w : w.heap.size ≤ b5 := by omega
  have bw : b < w.heap.size := by
    obtain ⟨_, _, _, _, hD0, _⟩ := hC
    exact lt_of_blk hD0.blk
  have mw : m ≠ b5 := by
    obtain ⟨tb', S', m', es', hD0, _⟩ := hC
    have e := (x10.tr x13).get hD0.blk
    rw [hD.blk] at e
    cases e
    have := hD0.map.lt; omega
  refine ⟨fun hlt => ?_, fun hge w79 c79 => ?_⟩
  · have hoW := ho.chg cW fun c hc e => by have := hrf c hc; have := x10.size; omega
    obtain ⟨g, o, hgb, hi, hcell⟩ := (hoW.rows chE_len (by decide)).get (i := k) (by omega)
    have hLk : L[k]? = some L[k] := List.getElem?_eq_getElem hi
    refine ⟨k, rfl, by omega, g, o, hgb, L[k].1.1, L[k].1.2, L[k].2, ⟨hcell.1, hcell.2.1, hcell.2.2.1, trivial⟩, fun b39 w40 hP39 w45 c45 => ?_⟩
    have x45 : Ext W w45 := hP39.then c45
    have hbW := (cW.ext x45).get hD.blk (by omega)
    have hmW := hD.map.chg (cW.ext x45) fun c hc e => mw (by cases hc; exact e)
    refine ⟨b, 0, rfl, some m, cell_blk hbW rfl, es, hmW, _, rfl, ?_⟩
    rw [show (L[k].1.1, L[k].1.2) = L[k].1 from rfl, hD.get]
    have c545 : Chg (fun c => c = b5) w13 w45 := cW.ext x45
    have hnext : ∀ best' pa' pb' (W' : World), Chg (fun c => c = b5) w13 W' → Bst (k + 1) best' pa' pb' → ∃ z : Int, z = IntKind.wrap .i64 (((k : Nat) : Int) + 1) ∧ (∃ k' : Nat, z = k' ∧ k' ≤ L.length ∧ Chg (fun c => c = b5) w13 W' ∧ Bst k' best' pa' pb') ∧ ((L.length : Int) - z).toNat < ((L.length : Int) - (k : Int)).toNat := by
      intro best' pa' pb' W' c' hB'
      exact ⟨_, rfl, ⟨k + 1, by rw [wr64 (by omega)]; simp, by omega, c', hB'⟩, by rw [wr64 (by omega)]; omega⟩
    have skip : (∀ i : Nat, byM js L[k].1 = some ((256 + i : Nat) : Int) → k0 ≤ i → ∃ i0 : Nat, best = ((256 + i0 : Nat) : Int) ∧ i0 ≤ i) → Bst (k + 1) best pa pb := by
      intro hs
      rcases hB with ⟨e1, e2, e3, hB⟩ | ⟨i, j, hj, hki, e1, e2, e3, hB⟩
      · refine .inl ⟨e1, e2, e3, fun e he i hi => ?_⟩
        rw [tk hLk, List.mem_append, List.mem_singleton] at he
        rcases he with he | rfl
        · exact hB e he i hi
        · intro hk0
          obtain ⟨i0, h1, _⟩ := hs i hi hk0
          omega
      · refine .inr ⟨i, j, hj, hki, e1, e2, e3, fun e he i' hi' hk0 => ?_⟩
        rw [tk hLk, List.mem_append, List.mem_singleton] at he
        rcases he with he | rfl
        · exact hB e he i' hi' hk0
        · obtain ⟨i0, h1, h2⟩ := hs i' hi' hk0
          omega
    have take : ∀ i : Nat, byM js L[k].1 = some ((256 + i : Nat) : Int) → k0 ≤ i → (best = 0 ∨ ((256 + i : Nat) : Int) < best) → Bst (k + 1) ((256 + i : Nat) : Int) L[k].1.1 L[k].1.2 := by
      intro i hi hk0 hb
      obtain ⟨i2, j, hj, hp, he⟩ := byM_some hi
      have : i = i2 := by omega
      subst this
      refine .inr ⟨i, j, hj, hk0, rfl, by rw [← hp], by rw [← hp], fun e he i' hi' hk0' => ?_⟩
      rw [tk hLk, List.mem_append, List.mem_singleton] at he
      rcases he with he | rfl
      · rcases hB with ⟨_, _, _, hB⟩ | ⟨i3, j3, _, _, e1, _, _, hB⟩
        · exact absurd hk0' (hB e he i' hi')
        · have := hB e he i' hi' hk0'; omega
      · rw [hi] at hi'; have := Option.some.inj hi'; omega
    refine ⟨fun j W' => Chg (fun c => c = b5) w13 W' ∧ (j = true → ∃ i : Nat, byM js L[k].1 = some ((256 + i : Nat) : Int) ∧ k0 ≤ i ∧ (best = 0 ∨ ((256 + i : Nat) : Int) < best)) ∧ (j = false → ∀ i : Nat, byM js L[k].1 = some ((256 + i : Nat) : Int) → k0 ≤ i → ∃ i0 : Nat, best = ((256 + i0 : Nat) : Int) ∧ i0 ≤ i), ?_, fun hs => ?_, fun hs w47 x47 => ⟨c545.ext x47, (fun h => nomatch h), fun _ i hi => by rw [hi] at hs; cases hs⟩⟩
    · rintro j W' ⟨c', hjt, hjf⟩
      refine ⟨fun hj w75 c75 => ?_, fun hj => hnext _ _ _ _ c' (skip (hjf hj))⟩
      obtain ⟨i, hi, hk0, hb⟩ := hjt hj
      have ht := take i hi hk0 hb
      rw [hi]
      exact hnext _ _ _ _ (c'.then c75) ht
    · obtain ⟨z, hz⟩ := Option.isSome_iff_exists.1 hs
      obtain ⟨i, j, hj, hp, rfl⟩ := byM_some hz
      have hbi := hbh i
      rw [hz]
      refine ⟨fun hgt => ⟨fun h0 w47 x47 => ⟨c545.ext x47, fun _ => ⟨i, rfl, hbi.1 hgt, .inl h0⟩, fun h => nomatch h⟩, fun hn w47 x47 => ⟨c545.ext x47, fun ht => ⟨i, rfl, hbi.1 hgt, .inr (of_decide_eq_true ht)⟩, fun hf i' hi' hk0 => ?_⟩⟩, fun hng w47 x47 => ⟨c545.ext x47, (fun h => nomatch h), fun _ i' hi' hk0 => ?_⟩⟩
      · have e : i' = i := by have := Option.some.inj hi'; omega
        subst e
        have hf := of_decide_eq_false hf
        rcases hB with ⟨e1, _⟩ | ⟨i3, j3, _, _, e1, _⟩
        · exact absurd e1 hn
        · exact ⟨i3, e1, by simp only [Option.getD_some] at hf; omega⟩
      · have e : i' = i := by have := Option.some.inj hi'; omega
        subst e
        exact absurd (hbi.2 hk0) hng
  · have hLk : L.take k = L := List.take_of_length_le (by omega)
    have X79 : Ext w w79 := by
      refine Chg.of_new (x10.tr x13) (cW.trans c79 (S'' := fun c => c = b5 ∨ c = b1) (fun _ _ h => .inl h) fun _ _ h => .inr h) ?_
      rintro c (rfl | rfl)
      · exact b5w
      · exact b1f
    have hin : ∀ (i : Nat) (j : Jd), js[i]? = some j → cntP (l.map (·.2)) (j.1, j.2.1) ≠ 0 → ∃ e ∈ L, byM js e.1 = some ((256 + i : Nat) : Int) := by
      intro i j hj hc
      have := (hch.mem (j.1, j.2.1) _).2 ⟨rfl, hc⟩
      exact ⟨_, this, byM_at hCod hj⟩
    rcases hB with ⟨rfl, rfl, rfl, hB⟩ | ⟨i, j, hj, hki, rfl, rfl, rfl, hB⟩
    · rw [decide_eq_false (by simp)]
      refine h0 (fun i j hj hki => ?_) w79 X79
      refine Decidable.byContradiction fun hc => ?_
      obtain ⟨e, he, hb⟩ := hin i j hj hc
      rw [hLk] at hB
      exact hB e he i hb hki
    · rw [decide_eq_true (by omega)]
      refine h1 i j hj hki (fun i' j' hj' hki' hlt => ?_) w79 X79
      refine Decidable.byContradiction fun hc => ?_
      obtain ⟨e, he, hb⟩ := hin i' j' hj' hc
      rw [hLk] at hB
      have := hB e he i' hb hki'
      omega
theorem k_apply_Encode_none {t : BA} {R : Sl → World → Prop} (h : R ⟨none, 0, 0⟩ w) : Calls PP n_apply_Coder_Encode #[.pointer none, .string t] w fun e w' => ∃ r : Sl, e = .returned r.v ∧ R r w' := by
  refine vc_apply_Coder_Encode ?_
  unfold VC_apply_Coder_Encode
  exact ⟨fun _ => h, fun h => absurd rfl h⟩
theorem k_apply_Encode {t : BA} {R : Sl → World → Prop} (hC : Cdr w b ms js) (ht : t.size ≤ 1048576) (hms : ms.length ≤ 1099511627776)
    (h : ∀ r w' l, Ext w w' → OwnL w' t_int 1 intE r l → Val js l → txs js l = splitT ms t → l.length ≤ t.size → (∀ c, r.blk = some c → w.heap.size ≤ c) → R r w') :
    Calls PP n_apply_Coder_Encode #[.pointer (some ⟨b, 0, none⟩), .string t] w fun e w' => ∃ r : Sl, e = .returned r.v ∧ R r w' := by
  refine vc_apply_Coder_Encode ?_
  unfold VC_apply_Coder_Encode
  have hCod := hC.cod
  have hjl := hCod.len
  refine ⟨fun h => (nomatch h), fun _ => k_seq_New (by omega) fun q w3 s xs l x3 hq hS hls hsf => ?_⟩
  obtain ⟨v0, t0⟩ := val_bytes js t
  refine ⟨fun bh W => ∃ (k0 : Nat) (xs : List Cl) (l : List (Nat × Int)), SqD W q s xs l ∧ (∀ i : Nat, bh < ((256 + i : Nat) : Int) ↔ k0 ≤ i) ∧ k0 ≤ ms.length ∧ bh < 256 + (ms.length : Int) ∧ Val js (l.map (·.2)) ∧ txs js (l.map (·.2)) = splitT (ms.take k0) t ∧ Ext w W ∧ l.length ≤ t.size, fun bh _ => (256 + (ms.length : Int) - bh).toNat,
    ⟨0, xs, l, hS, fun i => by omega, by omega, by omega, by rw [hls]; exact v0, by rw [hls]; exact t0, x3, by have := congrArg List.length hls; rw [List.length_map, syms_len] at this; omega⟩, ?_⟩
  rintro bh W ⟨k0, xs, l, hSW, hbh, hk0, hbm, hv, htx, X, hll⟩
  refine k_apply_next (hC.ext X) hSW (by omega) hbh (fun hz w15 x15 b19 w20 hP w23 c23 => ⟨fun h => (nomatch h), fun _ => ?_⟩) fun i j hj hki hmin w15 x15 b19 w20 hP w23 c23 => ⟨fun _ => ?_, fun h => nomatch h⟩
  · have x23 : Ext W w23 := x15.tr (hP.then c23)
    have b19l : b19 < w23.heap.size := Nat.lt_of_lt_of_le hP.lt c23.size
    refine k_seq_Symbols (hSW.ext x23) (by omega) fun r w33 x33 ho hf => ⟨x33.keep b19l, h r w33 _ ((X.tr x23).tr x33) ho hv ?_ (by simpa using hll) fun c hc => Nat.le_trans (X.tr x23).size (hf c hc)⟩
    have := cod_skip hCod hv k0 (ms.length - k0) (by omega) (fun i j hj h1 _ => hz i j hj h1) htx
    rw [this, show k0 + (ms.length - k0) = ms.length by omega, List.take_length]
  · have x23 : Ext W w23 := x15.tr (hP.then c23)
    have b19l : b19 < w23.heap.size := Nat.lt_of_lt_of_le hP.lt c23.size
    have b19f : w15.heap.size ≤ b19 := hP.fresh
    have hil : i < ms.length := by have := gl hj; omega
    have hm : ms[i]? = some ms[i] := List.getElem?_eq_getElem hil
    obtain ⟨a, b', g1, g2, g3⟩ := hCod.get i _ hm
    rw [hj] at g1; cases g1
    have hq15 : q < w15.heap.size := Nat.lt_of_lt_of_le hSW.lt x15.size
    have hs15 : ∀ c, s.blk = some c → c < w15.heap.size := fun c hc => Nat.lt_of_lt_of_le (hSW.row.lt hc) x15.size
    refine k_seq_Merge (p := (a, b')) (hSW.ext x23) (by omega) fun r w27 L xs' l' c27 hS27 hl' ho hch _ hf => ⟨c27.keep b19l ?_, ⟨i + 1, xs', l', hS27, fun i' => by omega, by omega, by omega, ?_, ?_, ?_, ?_⟩, ?_⟩
    · rintro (e | e)
      · omega
      · have := hs15 _ e; omega
    · rw [hl']; exact (hCod.join hj g2 g3 _ hv).2
    · rw [hl', ← (hCod.join hj g2 g3 _ hv).1, tk hm, splitT_snoc]
      congr 1
      have := cod_skip hCod hv k0 (i - k0) (by omega) (fun i' j' hj' h1 h2 => hmin i' j' hj' h1 (by omega)) htx
      rw [this, show k0 + (i - k0) = i by omega]
    · refine Chg.of_new (X.tr x23) c27 ?_
      rintro c (rfl | e)
      · exact hq
      · exact hsf c e
    · have h1 := joinI_len (a, b') ((256 + i : Nat) : Int) _ (l.map (·.2)) rfl
      have h2 := congrArg List.length hl'
      rw [List.length_map] at h1 h2
      have h3 : l'.length = (joinI (a, b') ((256 + i : Nat) : Int) (l.map (·.2))).length := h2
      omega
    · have := (hbh i).2 hki; dsimp only; omega
theorem k_apply_Split_none {t : BA} {R : Sl → World → Prop} (h : R ⟨none, 0, 0⟩ w) : Calls PP n_apply_Coder_Split #[.pointer none, .string t] w fun e w' => ∃ r : Sl, e = .returned r.v ∧ R r w' := by
  refine vc_apply_Coder_Split ?_
  unfold VC_apply_Coder_Split
  refine k_apply_Encode_none ⟨fun r i W => r = ⟨none, 0, 0⟩ ∧ i = 0 ∧ W = w, fun _ _ _ => 0, ⟨rfl, rfl, rfl⟩, ?_⟩
  rintro r i W ⟨rfl, rfl, rfl⟩
  exact ⟨fun hl => absurd hl (by decide), fun _ => h⟩
theorem k_apply_Split {t : BA} {R : Sl → World → Prop} (hC : Cdr w b ms js) (ht : t.size ≤ 1048576) (hms : ms.length ≤ 1099511627776)
    (h : ∀ r w', Ext w w' → OwnL w' t_string 1 strE r (splitT ms t) → (∀ c, r.blk = some c → w.heap.size ≤ c) → R r w') :
    Calls PP n_apply_Coder_Split #[.pointer (some ⟨b, 0, none⟩), .string t] w fun e w' => ∃ r : Sl, e = .returned r.v ∧ R r w' := by
  refine vc_apply_Coder_Split ?_
  unfold VC_apply_Coder_Split
  have hmax : maxLen = 9223372036854775807 := rfl
  have hCod := hC.cod
  have hjl := hCod.len
  refine k_apply_Encode hC ht hms fun r w2 l x2 ho hv htx hll hf => ?_
  have hrn := ho.len intE_len (by decide)
  have htl : (txs js l).length = l.length := by simp [txs]
  refine ⟨fun o i W => ∃ k : Nat, i = k ∧ k ≤ l.length ∧ Ext w2 W ∧ OwnL W t_string 1 strE o ((txs js l).take k) ∧ ∀ c, o.blk = some c → w2.heap.size ≤ c, fun _ i _ => (l.length - i).toNat, ⟨0, rfl, by omega, Chg.refl _, OwnL.nil, fun c hc => nomatch hc⟩, ?_⟩
  rintro o _ W ⟨k, rfl, hk, x, hoo, hof⟩
  have hon := hoo.len strE_len (by decide)
  refine ⟨fun hl => ?_, fun hl => ?_⟩
  · obtain ⟨g, og, z, hg, hz, hc⟩ := ((ho.ext x).rows intE_len (by decide)).int (i := k) (by omega)
    have hCW := hC.ext (x2.tr x)
    obtain ⟨tb, S, m, es, hD, -⟩ := hCW
    have hon2 : o.n = k := by rw [hon, List.length_take, htl]; omega
    refine ⟨k, rfl, by omega, g, og, hg, z, hc, b, 0, rfl, _, cell_blk hD.blk rfl, k_sym_Text hD.tab (by omega) fun w27 x27 => ⟨_, hoo.ext x27, by omega, fun s36 w35 hA => ⟨_, rfl, ⟨k + 1, by rw [wr64 (by omega)]; simp, by omega, Chg.of_new (x.tr x27) hA.chg hof, ?_, fun c hc => ?_⟩, by rw [wr64 (by omega)]; dsimp only; omega⟩⟩⟩
    · have e : (txs js l)[k]? = some ((txOf js z).getD ⟨#[]⟩) := by unfold txs; rw [List.getElem?_map, hz]; rfl
      rw [tk e]; exact hA.ownL
    · rcases hA.lt hc with h | h
      · exact hof c h
      · exact Nat.le_trans (x.tr x27).size h
  · rw [List.take_of_length_le (by omega), htx] at hoo
    exact h o W (x2.tr x) hoo fun c hc => Nat.le_trans x2.size (hof c hc)
theorem k_apply_Size_none {R : Int → World → Prop} (h : R 0 w) : Calls PP n_apply_Coder_Size #[.pointer none] w fun e w' => ∃ r : Int, e = .returned (.int .i64 r) ∧ R r w' := by
  refine vc_apply_Coder_Size ?_
  unfold VC_apply_Coder_Size
  exact ⟨fun _ => h, fun h => absurd rfl h⟩
theorem k_apply_Size {R : Int → World → Prop} (hC : Cdr w b ms js) (hms : ms.length ≤ 1099511627776) (h : R ((256 + ms.length : Nat) : Int) w) : Calls PP n_apply_Coder_Size #[.pointer (some ⟨b, 0, none⟩)] w fun e w' => ∃ r : Int, e = .returned (.int .i64 r) ∧ R r w' := by
  refine vc_apply_Coder_Size ?_
  unfold VC_apply_Coder_Size
  have hjl := hC.cod.len
  obtain ⟨tb, S, m, es, hD, -⟩ := hC
  exact ⟨fun h => (nomatch h), fun _ => ⟨b, 0, rfl, _, cell_blk hD.blk rfl, k_sym_Len hD.tab (by omega) (by rw [hjl]; exact h)⟩⟩
end
end Go.Proofs.Ytchjcjocihckpaa.G
