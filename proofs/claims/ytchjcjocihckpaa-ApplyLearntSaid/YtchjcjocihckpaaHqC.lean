/- Contracts: a word as symbols: made, read, joined. -/
import Derived.Test.YtchjcjocihckpaaHpC
namespace Go.Proofs.Ytchjcjocihckpaa.G
open Go Go.RowKit
/-- A text's bytes, as symbols. -/
def syms (t : BA) : List Int := t.data.toList.map fun c => ((c.toNat : Nat) : Int)
theorem syms_len (t : BA) : (syms t).length = t.size := by simp [syms, ba_len]
theorem chn_from (xs : List Cl) (f : Nat → Int) : ∀ (m j : Nat), (∀ i, j ≤ i → i < j + m → xs[i]? = some (f i, (i : Int) - 1, if i + 1 = j + m then -1 else (i : Int) + 1)) → Chn xs ((j : Int) - 1) ((List.range' j m).map fun i => (i, f i))
  | 0, _, _ => trivial
  | m + 1, j, h => by
    rw [List.range'_succ, List.map_cons]
    have h0 := h j (Nat.le_refl _) (by omega)
    have h1 := chn_from xs f m (j + 1) fun i h1 h2 => by
      have := h i (by omega) (by omega)
      rw [this]; congr 3; rw [show j + (m + 1) = j + 1 + m by omega]
    refine ⟨?_, ?_⟩
    · rw [h0]
      cases m with
      | zero => simp [nxt]
      | succ m => rw [List.range'_succ, List.map_cons, if_neg (by omega)]; simp [nxt]
    · have e : ((j + 1 : Nat) : Int) - 1 = (j : Int) := by omega
      rw [e] at h1; exact h1
section
variable {w w1 : World} {b : Nat} {s : Sl} {xs : List Cl} {l : List (Nat × Int)}
theorem k_seq_New {t : BA} {R : Option Addr → World → Prop} (ht : t.size ≤ 1099511627776)
    (h : ∀ b w' s xs l, Ext w w' → w.heap.size ≤ b → SqD w' b s xs l → l.map (·.2) = syms t → (∀ c, s.blk = some c → w.heap.size ≤ c) → R (some ⟨b, 0, none⟩) w') :
    Calls PP n_seq_New #[.string t] w fun e w' => ∃ r : Option Addr, e = .returned (.pointer r) ∧ R r w' := by
  refine vc_seq_New ?_
  unfold VC_seq_New
  intro b w2 nb s4 w5 x5 hB
  have hmax : maxLen = 9223372036854775807 := rfl
  obtain ⟨hbl, hbn⟩ := hB.bys
  have hn4 : s4.n = t.size := by have := hB.len; omega
  let f : Nat → Int := fun i => ((t.data.toList.getD i 0).toNat : Nat)
  let row : Nat → List Cl := fun k => (List.range k).map fun i => (f i, (i : Int) - 1, (i : Int) + 1)
  have hb5 : b < w5.heap.size := by have := nb.lt; have := x5.size; omega
  refine ⟨fun i W => ∃ (k : Nat) (v : Sl), i = k ∧ k ≤ t.size ∧ Chg (fun c => c = b) w5 W ∧ W.heap[b]? = some (.cells #[v.v, .int .i64 (-1), .int .i64 ((t.size : Nat) : Int)] t_seq_Seq (0, 0)) ∧ OwnL W t_seq_cell 3 clE v (row k) ∧ (∀ c, v.blk = some c → w5.heap.size ≤ c), fun i _ => (t.size - i).toNat,
    ⟨0, ⟨none, 0, 0⟩, rfl, by omega, Chg.refl _, x5.get nb.here, OwnL.nil, fun c hc => nomatch hc⟩, ?_⟩
  rintro _ W ⟨k, v, rfl, hk, cW, hbk, ho, hf⟩
  have hvn := ho.len clE_len (by decide)
  have hvb : v.blk ≠ some b := fun e => by have := hf b e; omega
  refine ⟨fun hl => ?_, fun hl => ?_⟩
  · have hk' : k < t.size := by omega
    have hrow : (row k).length = k := by simp [row]
    rcases hbn with ⟨h1, h2⟩ | ⟨g, o, h1, h2⟩
    · rw [h2] at hbl; simp at hbl; omega
    have hgs : s4.blk = some g := by simp [Sl.blk, h1]
    have hcb : ∃ z : UInt8, t.data.toList[k]? = some z := ⟨_, ba_at hk'⟩
    have hc5 := Cells.at h2 k (byV (t.data.toList.getD k 0)) (by rw [List.getElem?_map, ba_at hk']; rfl)
    have hgne : g ≠ b := by
      obtain ⟨g', e1, e2⟩ := hB.fresh
      rw [h1] at e1; cases e1
      have := nb.lt; omega
    refine ⟨k, rfl, by omega, g, o, h1, f k, ?_, v, cell_blk hbk rfl, _, rfl, _, rfl, _, rfl, _, ho, ?_, fun s' w33 hA => ?_⟩
    · rw [Nat.mul_one]; exact cW.cell hc5 hgne
    · omega
    · have hbk33 : w33.heap[b]? = _ := hA.chg.get hbk hvb
      refine ⟨⟨_, _, hbk33, Nat.le_of_ble_eq_true rfl⟩, fun w40 e40 => ⟨_, rfl, ⟨k + 1, s', by rw [wr64 (by omega)]; simp, by omega, ?_, sto_blk e40 hbk33, ?_, ?_⟩, by rw [wr64 (by omega)]; dsimp only; omega⟩⟩
      · exact (cW.trans hA.chg (S'' := fun c => c = b) (fun _ _ h => h) fun c hc e => absurd (hf c e) (by omega)).then (sto_chg e40)
      · have hs'b : s'.blk ≠ some b := fun e => by
          rcases hA.lt e with h | h
          · exact hvb h
          · have := lt_of_blk hbk; omega
        have := (hA.ownL (x := (f k, (k : Int) - 1, (k : Int) + 1)) ?_).chg (sto_chg e40) fun c hc e => hs'b (e ▸ hc)
        · have e : row (k + 1) = row k ++ [(f k, (k : Int) - 1, (k : Int) + 1)] := by simp [row, List.range_succ]
          rw [e]; exact this
        · have hz : f k < 256 ∧ 0 ≤ f k := by
            have := UInt8.toNat_lt (t.data.toList.getD k 0)
            show ((t.data.toList.getD k 0).toNat : Int) < 256 ∧ 0 ≤ ((t.data.toList.getD k 0).toNat : Int)
            omega
          rw [wr64 (by omega), wr64 (by omega), wr64 (by omega)]; rfl
      · intro c hc
        rcases hA.lt hc with h | h
        · exact hf c h
        · exact Nat.le_trans cW.size h
  · have e : k = t.size := by omega
    subst e
    have hrow : (row t.size).length = t.size := by simp [row]
    have XW : Ext w W := Chg.of_new (nb.ext.tr x5) cW fun c hc => hc ▸ nb.fresh
    have h5 : w.heap.size ≤ w5.heap.size := (nb.ext.tr x5).size
    have hls : ((List.range' 0 t.size).map fun i => (i, f i)).map (·.2) = syms t := by
      rw [List.map_map]
      apply List.ext_getElem?
      intro i
      by_cases hi : i < t.size
      · rw [List.getElem?_map, List.getElem?_range' (by omega)]
        unfold syms
        rw [List.getElem?_map, ba_at hi]; simp [f]
      · rw [List.getElem?_eq_none (by simp; omega), List.getElem?_eq_none (by rw [syms_len]; omega)]
    have hinc : (((List.range' 0 t.size).map fun i => (i, f i)).map (·.1)).Pairwise (· < ·) := by
      rw [List.map_map]
      have : ((fun q : Nat × Int => q.1) ∘ fun i => (i, f i)) = id := rfl
      rw [this, List.map_id]; exact List.pairwise_lt_range'
    refine ⟨v, cell_blk hbk rfl, fun hpos => ?_, fun hz => ?_⟩
    · have hpos : 0 < t.size := by omega
      refine ⟨_, rfl, ⟨_, _, hbk, Nat.le_of_ble_eq_true rfl⟩, fun w48 e48 => ⟨t.size - 1, by rw [wr64 (by omega)]; omega, by omega, ?_⟩⟩
      have hbk48 := sto_blk (cs' := #[v.v, .int .i64 0, .int .i64 ((t.size : Nat) : Int)]) e48 hbk
      have ho48 := ho.chg (sto_chg e48) fun c hc e => hvb (e ▸ hc)
      obtain ⟨g, o, hg, _⟩ := (ho48.rows clE_len (by decide)).get (i := 0) (by omega)
      refine ⟨g, o, hg, ho48.wr clE_len (by decide) (by omega) (by decide) hg, fun w56 e56 => ?_⟩
      have hput := ho48.put clE_len (by decide) (i := t.size - 1) (j := 2) (x' := (f (t.size - 1), ((t.size - 1 : Nat) : Int) - 1, -1)) (by omega) (by decide) (by simp [row, clE]) hg e56
      have hgb : g ≠ b := fun e => hvb (by rw [← e]; simp [Sl.blk, hg])
      refine h b w56 v _ _ ?_ nb.fresh ⟨?_, hput, ?_, hinc, hvb⟩ hls fun c hc => Nat.le_trans h5 (hf c hc)
      · have c1 := (sto_chg e48).trans (sto_chg e56) (S'' := fun c => c = b ∨ c = g) (fun _ _ h => .inl h) fun _ _ h => .inr h
        refine Chg.of_new XW c1 ?_
        rintro c (rfl | rfl)
        · exact nb.fresh
        · exact Nat.le_trans h5 (hf _ (by simp [Sl.blk, hg]))
      · have := (sto_chg e56).get hbk48 hgb.symm
        rw [this]
        simp only [List.length_map, List.length_range']
        obtain ⟨m, hm⟩ : ∃ m, t.size = m + 1 := ⟨t.size - 1, by omega⟩
        rw [hm, List.range'_succ]; rfl
      · refine chn_from _ f t.size 0 fun i _ hi => ?_
        rw [List.getElem?_set]
        by_cases e : t.size - 1 = i
        · subst e; rw [if_pos rfl, if_pos (by omega), if_pos (by omega)]
        · rw [if_neg e, if_neg (by omega)]
          simp only [row]
          rw [List.getElem?_map, List.getElem?_range (by omega)]; rfl
    · have hz : t.size = 0 := by omega
      refine h b W v _ _ XW nb.fresh ⟨?_, ho, ?_, hinc, hvb⟩ hls fun c hc => Nat.le_trans h5 (hf c hc)
      · rw [hbk, hz]; rfl
      · rw [hz]; trivial
theorem k_seq_Symbols_none {R : Sl → World → Prop} (h : R ⟨none, 0, 0⟩ w) : Calls PP n_seq_Seq_Symbols #[.pointer none] w fun e w' => ∃ r : Sl, e = .returned r.v ∧ R r w' := by
  refine vc_seq_Seq_Symbols ?_
  unfold VC_seq_Seq_Symbols
  exact ⟨fun _ => h, fun h => absurd rfl h⟩
theorem k_seq_Symbols {R : Sl → World → Prop} (hS : SqD w b s xs l) (hl : l.length ≤ 1099511627776)
    (h : ∀ r w', Ext w w' → OwnL w' t_int 1 intE r (l.map (·.2)) → (∀ c, r.blk = some c → w.heap.size ≤ c) → R r w') :
    Calls PP n_seq_Seq_Symbols #[.pointer (some ⟨b, 0, none⟩)] w fun e w' => ∃ r : Sl, e = .returned r.v ∧ R r w' := by
  refine vc_seq_Seq_Symbols ?_
  unfold VC_seq_Seq_Symbols
  have hmax : maxLen = 9223372036854775807 := rfl
  refine ⟨fun h => (nomatch h), fun _ => ⟨b, 0, rfl, _, cell_blk hS.blk rfl, fun r i W => ∃ pre post, l = pre ++ post ∧ i = nxt post ∧ Ext w W ∧ OwnL W t_int 1 intE r (pre.map (·.2)) ∧ (∀ c, r.blk = some c → w.heap.size ≤ c), fun _ i _ => (if i < 0 then (0 : Int) else (s.n : Int) - i).toNat,
    ⟨[], l, rfl, rfl, Chg.refl w, OwnL.nil, fun c hc => nomatch hc⟩, ?_⟩⟩
  rintro r _ W ⟨pre, post, rfl, rfl, x, ho, hf⟩
  have hn := ho.len intE_len (by decide)
  have hSW := hS.ext x
  refine ⟨fun hp => ?_, fun hp => ?_⟩
  · cases post with
    | nil => simp [nxt] at hp
    | cons q post =>
      obtain ⟨k, a⟩ := q
      obtain ⟨hk, _, g, o, hb, _, c0, c1, c2⟩ := hSW.node
      have hll : pre.length ≤ 1099511627776 := by simp at hl; omega
      refine ⟨s, cell_blk hSW.blk rfl, k, rfl, hk, g, o, hb, a, c0, _, ho, by simp at hn; omega, fun r' w28 hA => ?_⟩
      have x28 : Ext w w28 := Chg.of_new x hA.chg hf
      have hS28 := hS.ext x28
      obtain ⟨hk', _, g', o', hb', _, c0', c1', c2'⟩ := hS28.node
      refine ⟨s, cell_blk hS28.blk rfl, hk', g', o', hb', _, c2', ⟨pre ++ [(k, a)], post, by simp, rfl, x28, ?_, ?_⟩, ?_⟩
      · rw [List.map_append]; exact hA.ownL
      · intro c hc
        rcases hA.lt hc with h | h
        · exact hf c h
        · exact Nat.le_trans x.size h
      · dsimp only
        have hinc := hS.inc
        cases post with
        | nil => simp only [nxt]; omega
        | cons q post =>
          simp only [nxt]
          rw [List.map_append, List.pairwise_append] at hinc
          have := hinc.2.1
          simp only [List.map_cons, List.pairwise_cons] at this
          have := this.1 q.1 (by simp)
          obtain ⟨hq, _⟩ := (show SqD w b s xs ((pre ++ [(k, a)]) ++ (q.1, q.2) :: post) by rw [List.append_assoc]; exact hS).node
          omega
  · cases post with
    | nil => rw [List.append_nil] at *; exact h r W x ho hf
    | cons q post => simp [nxt] at hp
end
/-! Joining. -/
theorem last_map (l : List (Nat × Int)) (y : Int) (p : Pr) : last1 (l.map (·.2)) y p = if (l.getLast?.map fun q : Nat × Int => (q.2, y)) = some p then 1 else 0 := by
  unfold last1
  rw [List.getLast?_map]
  cases l.getLast? with
  | none => simp
  | some q => simp [Option.map]
theorem at1_map (x : Int) (l : List (Nat × Int)) (p : Pr) : at1 x (l.map (·.2)) p = if (l.head?.map fun q : Nat × Int => (x, q.2)) = some p then 1 else 0 := by
  cases l with
  | nil => simp [at1]
  | cons q l => simp [at1]
section
variable {w w1 : World} {b : Nat} {s : Sl} {xs : List Cl}
/-- The pair that begins at the place behind. -/
theorem pairAt_back {pre post : List (Nat × Int)} {k : Nat} {a : Int} : PairAt (pre ++ (k, a) :: post) (lst (-1) pre) (pre.getLast?.map fun q : Nat × Int => (q.2, a)) := by
  unfold lst
  rcases List.eq_nil_or_concat pre with rfl | ⟨l, q, rfl⟩
  · exact .inl ⟨by decide, rfl⟩
  · refine .inr ⟨l, q.1, q.2, (k, a) :: post, by simp, ?_, ?_⟩
    · simp
    · simp
theorem pairAt_here {pre post : List (Nat × Int)} {k : Nat} {a : Int} : PairAt (pre ++ (k, a) :: post) ((k : Nat) : Int) (post.head?.map fun q : Nat × Int => (a, q.2)) := .inr ⟨pre, k, a, post, rfl, rfl, rfl⟩
theorem k_seq_join {g n k j : Nat} {d : Pr → Int} {a b' y : Int} {pre post : List (Nat × Int)} {R : World → Prop} (hS : SqD w b s xs (pre ++ (k, a) :: (j, b') :: post)) (hL : Led w g n d) (hgb : g ≠ b) (hgs : s.blk ≠ some g) (hl : (pre ++ (k, a) :: (j, b') :: post).length ≤ 1099511627776)
    (hd : ∀ p, -4000000000000000000 ≤ d p ∧ d p ≤ 4000000000000000000)
    (h : ∀ w' xs', Chg (fun c => c = b ∨ s.blk = some c ∨ c = g) w w' → SqD w' b s xs' (pre ++ (k, y) :: post) → Led w' g (n + 5) (fun p => d p + cntP ((pre ++ (k, y) :: post).map (·.2)) p - cntP ((pre ++ (k, a) :: (j, b') :: post).map (·.2)) p) → R w') :
    Calls PP n_seq_Seq_join #[.pointer (some ⟨b, 0, none⟩), .map (some g), .int .i64 ((k : Nat) : Int), .int .i64 y] w fun e w' => e = .returned (.tuple #[]) ∧ R w' := by
  refine vc_seq_Seq_join ?_
  unfold VC_seq_Seq_join
  obtain ⟨hk, hxk, g0, o0, hb0, hbk0, c0, c1, c2⟩ := hS.node
  have hg0b : g0 ≠ b := fun e => hS.ne (e ▸ hbk0)
  have hg0g : g0 ≠ g := fun e => hgs (e ▸ hbk0)
  refine ⟨b, 0, rfl, s, cell_blk hS.blk rfl, k, rfl, hk, g0, o0, hb0, _, c1, _, c2, fun w1 x1 => ?_⟩
  have hS1 := hS.ext x1
  have one : ∀ (po : Option Pr) (p : Pr), 0 ≤ (if po = some p then (1 : Int) else 0) ∧ (if po = some p then (1 : Int) else 0) ≤ 1 ∧ (if po = some p then (-1 : Int) else 0) = - (if po = some p then (1 : Int) else 0) := fun po p => by split <;> omega
  have keep : ∀ {wa wb : World} {ys : List Cl} {l : List (Nat × Int)}, SqD wa b s ys l → Chg (fun c => c = g) wa wb → SqD wb b s ys l := fun hS c => hS.chg c hgb.symm fun c hc e => hgs (e ▸ hc)
  refine k_seq_note hS1 (hL.ext x1) pairAt_back (fun p => by have := hd p; omega) (by omega) fun w2 c2' hL2 => ?_
  have hS2 := keep hS1 c2'
  refine k_seq_note hS2 hL2 (pairAt_here (pre := pre)) (fun p => by have := hd p; have := one (pre.getLast?.map fun q : Nat × Int => (q.2, a)) p; omega) (by omega) fun w3 c3' hL3 => ?_
  have hS3 := keep hS2 c3'
  have hS3' : SqD w3 b s xs ((pre ++ [(k, a)]) ++ (j, b') :: post) := by rw [List.append_assoc]; exact hS3
  have hp3 : PairAt (pre ++ (k, a) :: (j, b') :: post) ((j : Nat) : Int) (post.head?.map fun q : Nat × Int => (b', q.2)) := by
    have := pairAt_here (pre := pre ++ [(k, a)]) (k := j) (a := b') (post := post)
    rw [List.append_assoc] at this; exact this
  refine k_seq_note hS3 hL3 hp3 (fun p => by have := hd p; have := one (pre.getLast?.map fun q : Nat × Int => (q.2, a)) p; have := one ((((j, b') :: post).head?).map fun q : Nat × Int => (a, q.2)) p; omega) (by omega) fun w4 c4' hL4 => ?_
  have hS4 := keep hS3 c4'
  have hS4' : SqD w4 b s xs ((pre ++ [(k, a)]) ++ (j, b') :: post) := by rw [List.append_assoc]; exact hS4
  obtain ⟨hj, hxj, g1, o1, hb1, _, d0, d1, d2⟩ := hS4'.node
  rw [hb0] at hb1; cases hb1
  refine ⟨s, cell_blk hS4.blk rfl, j, rfl, hj, g0, o0, hb0, _, d2, hk, fun w5 x5 => ?_⟩
  have hS5 := hS4.ext x5
  have hlen := hS.len
  have hxk' : xs[k]'(by omega) = (a, lst (-1) pre, ((j : Nat) : Int)) := by
    have := List.getElem?_eq_getElem (l := xs) (i := k) (by omega)
    rw [this] at hxk; exact Option.some.inj hxk
  refine ⟨hS5.row.wr (j := 0) clE_len (by decide) hk (by decide) hb0, fun w6 e6 => ?_⟩
  have e6' : w6 = setCells w5 g0 (o0 + k * 3 + 0) [.int .i64 y] := e6
  have hr6 := hS5.row.put clE_len (by decide) (i := k) (j := 0) (x' := (y, lst (-1) pre, ((j : Nat) : Int))) (by omega) (by decide) (by rw [hxk']; rfl) hb0 e6'
  have hb6 := (sto_chg e6).get hS5.blk hg0b.symm
  refine ⟨cell_blk hb6 rfl, cell_blk hb6 rfl, hr6.wr clE_len (by decide) hk (by decide) hb0, fun w7 e7 => ?_⟩
  have hr7 := hr6.put clE_len (by decide) (i := k) (j := 2) (x' := (y, lst (-1) pre, nxt post)) (by simp; omega) (by decide) (by simp [clE]) hb0 e7
  have hb7 := (sto_chg e7).get hb6 hg0b.symm
  rw [List.set_set] at hr7
  have hcj := Chn.join (s := y) hS.chn hS.inc
  have hij := inc_join (s := y) hS.inc
  have c57 : Chg (fun c => c = g0) w5 w7 := (sto_chg e6).then (sto_chg e7)
  have cw5 : Chg (fun c => c = b ∨ s.blk = some c ∨ c = g) w w5 := (((x1.chg.then c2').then c3').then c4').ext x5 |>.mono fun c _ hc => .inr (.inr hc)
  have cw7 : Chg (fun c => c = b ∨ s.blk = some c ∨ c = g) w w7 := cw5.then (c57.mono fun c _ hc => .inr (.inl (hc ▸ hbk0)))
  have hL7 := (hL4.ext x5).chg c57 fun e => hg0g e.symm
  have hnl : (pre ++ (k, a) :: (j, b') :: post).length = (pre ++ (k, y) :: post).length + 1 := by simp; omega
  have hnx : nxt (pre ++ (k, a) :: (j, b') :: post) = nxt (pre ++ (k, y) :: post) := nxt_app rfl (q := (k, a))
  refine ⟨cell_blk hb7 rfl, cell_blk hb7 rfl, fun W => ∃ xs', OwnL W t_seq_cell 3 clE s xs' ∧ Chn xs' (-1) (pre ++ (k, y) :: post) ∧ Chg (fun c => c = g0) w7 W, ?_, fun h0 => ?_, fun h0 => ?_⟩
  · rintro W ⟨xs', ho', hc', cW⟩
    have hbW := cW.get hb7 hg0b.symm
    refine ⟨_, cell_blk hbW rfl, _, rfl, ⟨_, _, hbW, Nat.le_of_ble_eq_true rfl⟩, fun w9 e9 => ?_⟩
    have hb9 := sto_blk (cs' := #[s.v, .int .i64 (nxt (pre ++ (k, y) :: post)), .int .i64 (((pre ++ (k, y) :: post).length : Nat) : Int)]) e9 hbW (by rw [hnx, wr64 (by omega), hnl]; simp [setRow])
    have hS9 : SqD w9 b s xs' (pre ++ (k, y) :: post) := ⟨hb9, ho'.chg (sto_chg e9) fun c hc e => hS.ne (e ▸ hc), hc', hij, hS.ne⟩
    have hL9 := (hL7.chg cW fun e => hg0g e.symm).chg (sto_chg e9) hgb
    refine k_seq_note hS9 hL9 pairAt_back (fun p => ?_) (by omega) fun w10 c10 hL10 => ?_
    · have := hd p; have := one (pre.getLast?.map fun q : Nat × Int => (q.2, a)) p; have := one ((((j, b') :: post).head?).map fun q : Nat × Int => (a, q.2)) p; have := one (post.head?.map fun q : Nat × Int => (b', q.2)) p; omega
    have hS10 := keep hS9 c10
    refine k_seq_note hS10 hL10 (pairAt_here (pre := pre)) (fun p => ?_) (by omega) fun w11 c11 hL11 => ?_
    · have := hd p; have := one (pre.getLast?.map fun q : Nat × Int => (q.2, a)) p; have := one ((((j, b') :: post).head?).map fun q : Nat × Int => (a, q.2)) p; have := one (post.head?.map fun q : Nat × Int => (b', q.2)) p; have := one (pre.getLast?.map fun q : Nat × Int => (q.2, y)) p; omega
    refine h w11 xs' ?_ (keep hS10 c11) (hL11.of fun p => ?_)
    · have c9 : Chg (fun c => c = b ∨ s.blk = some c ∨ c = g) w7 w9 := (cW.mono fun c _ hc => .inr (.inl (hc ▸ hbk0))).then ((sto_chg e9).mono fun c _ hc => .inl hc)
      exact ((cw7.then c9).then (c10.mono fun c _ hc => .inr (.inr hc))).then (c11.mono fun c _ hc => .inr (.inr hc))
    · have hcj := cntP_join p (pre.map (·.2)) (post.map (·.2)) a b' y
      simp only [List.map_append, List.map_cons] at hcj ⊢
      rw [last_map, last_map, at1_map, at1_map] at hcj
      have o1 := one (pre.getLast?.map fun q : Nat × Int => (q.2, a)) p
      have o2 := one ((((j, b') :: post).head?).map fun q : Nat × Int => (a, q.2)) p
      have o3 := one (post.head?.map fun q : Nat × Int => (b', q.2)) p
      have e2 : (if ((((j, b') :: post).head?).map fun q : Nat × Int => (a, q.2)) = some p then (1 : Int) else 0) = if (a, b') = p then 1 else 0 := by simp
      rw [e2] at o2
      rw [o1.2.2, o2.2.2, o3.2.2] 
      omega
  · cases post with
    | nil => simp [nxt] at h0
    | cons q post =>
      have hS4'' : SqD w4 b s xs ((pre ++ [(k, a), (j, b')]) ++ (q.1, q.2) :: post) := by rw [List.append_assoc]; exact hS4
      obtain ⟨hq, hxq, _⟩ := hS4''.node
      refine ⟨s, cell_blk hb7 rfl, q.1, rfl, hq, g0, o0, hb0, hr7.wr clE_len (by decide) hq (by decide) hb0, fun w8 e8 => ⟨_, hr7.put clE_len (by decide) (i := q.1) (j := 1) (x' := (q.2, ((k : Nat) : Int), nxt post)) (by simp; omega) (by decide) ?_ hb0 e8, hcj, sto_chg e8⟩⟩
      have hkq : k ≠ q.1 := by
        have := hS.inc
        rw [List.map_append, List.pairwise_append] at this
        have := this.2.1
        simp only [List.map_cons, List.pairwise_cons] at this
        have := this.1 q.1 (by simp)
        omega
      have hx : (xs.set k (y, lst (-1) pre, nxt (q :: post)))[q.1]? = some (q.2, lst (-1) (pre ++ [(k, a), (j, b')]), nxt post) := by rw [List.getElem?_set_ne hkq]; exact hxq
      have := List.getElem?_eq_some_iff.1 hx
      obtain ⟨h1, h2⟩ := this
      rw [h2]; rfl
  · cases post with
    | nil => exact ⟨_, hr7, hcj, Chg.refl _⟩
    | cons q post => simp [nxt] at h0
end
end Go.Proofs.Ytchjcjocihckpaa.G
