/- Contracts: a word's pairs; a pair merged in a word. -/
import Derived.Test.YtchjcjocihckpaaHqC
import Derived.Test.YtchjcjocihckpaaGtC
namespace Go.Proofs.Ytchjcjocihckpaa.G
open Go Go.RowKit
section
variable {w w1 : World} {b : Nat} {s : Sl} {xs : List Cl} {l : List (Nat × Int)}
theorem SqD.next {pre post : List (Nat × Int)} {k : Nat} {a : Int} (h : SqD w b s xs (pre ++ (k, a) :: post)) : ((if nxt post < 0 then (0 : Int) else (s.n : Int) - nxt post).toNat < (if ((k : Nat) : Int) < 0 then (0 : Int) else (s.n : Int) - ((k : Nat) : Int)).toNat) := by
  obtain ⟨hk, _⟩ := h.node
  have e : (if ((k : Nat) : Int) < 0 then (0 : Int) else (s.n : Int) - ((k : Nat) : Int)) = (s.n : Int) - k := if_neg (by omega)
  rw [e]
  cases post with
  | nil => rw [if_pos (show nxt [] < 0 by decide)]; omega
  | cons q post =>
    have hinc := h.inc
    rw [List.map_append, List.pairwise_append] at hinc
    have := hinc.2.1
    simp only [List.map_cons, List.pairwise_cons] at this
    have h1 := this.1 q.1 (by simp)
    obtain ⟨hq, _⟩ := (show SqD w b s xs ((pre ++ [(k, a)]) ++ (q.1, q.2) :: post) by rw [List.append_assoc]; exact h).node
    rw [show nxt (q :: post) = ((q.1 : Nat) : Int) from rfl]
    have e2 : (if ((q.1 : Nat) : Int) < 0 then (0 : Int) else (s.n : Int) - ((q.1 : Nat) : Int)) = (s.n : Int) - q.1 := if_neg (by omega)
    rw [e2]; omega
theorem k_seq_Pairs_none {R : Sl → World → Prop} (h : R ⟨none, 0, 0⟩ w) : Calls PP n_seq_Seq_Pairs #[.pointer none] w fun e w' => ∃ r : Sl, e = .returned r.v ∧ R r w' := by
  refine vc_seq_Seq_Pairs ?_
  unfold VC_seq_Seq_Pairs
  exact ⟨fun _ => h, fun h => absurd rfl h⟩
theorem k_seq_Pairs {R : Sl → World → Prop} (hS : SqD w b s xs l) (hl : l.length ≤ 1099511627776)
    (h : ∀ r w' L, Ext w w' → OwnL w' t_seq_Change 3 chE r L → Chgs (fun p => cntP (l.map (·.2)) p) L → L.length ≤ l.length → (∀ c, r.blk = some c → w.heap.size ≤ c) → R r w') :
    Calls PP n_seq_Seq_Pairs #[.pointer (some ⟨b, 0, none⟩)] w fun e w' => ∃ r : Sl, e = .returned r.v ∧ R r w' := by
  refine vc_seq_Seq_Pairs ?_
  unfold VC_seq_Seq_Pairs
  refine ⟨fun h => (nomatch h), fun _ g w3 ng => ?_⟩
  have hS3 := hS.ext ng.ext
  refine ⟨b, 0, rfl, _, cell_blk hS3.blk rfl, fun i W => ∃ pre post, l = pre ++ post ∧ i = nxt post ∧ Ext w W ∧ Led W g pre.length (fun p => cntP (l.map (·.2)) p - cntP (post.map (·.2)) p), fun i _ => (if i < 0 then (0 : Int) else (s.n : Int) - i).toNat,
    ⟨[], l, rfl, rfl, ng.ext, (Led.new ng).of fun p => by omega⟩, ?_⟩
  rintro _ W ⟨pre, post, rfl, rfl, x, hL⟩
  have hSW := hS.ext x
  refine ⟨fun hp => ?_, fun hp => ?_⟩
  · cases post with
    | nil => simp [nxt] at hp
    | cons q post =>
      obtain ⟨k, a⟩ := q
      have hc : ∀ p, 0 ≤ cntP ((pre ++ (k, a) :: post).map (·.2)) p - cntP (((k, a) :: post).map (·.2)) p ∧ cntP ((pre ++ (k, a) :: post).map (·.2)) p - cntP (((k, a) :: post).map (·.2)) p ≤ 1099511627776 := fun p => by
        have h1 := cntP_bd p ((pre ++ (k, a) :: post).map (·.2))
        have h2 := cntP_bd p (((k, a) :: post).map (·.2))
        have h3 := cntP_mid p a (post.map (·.2)) (pre.map (·.2))
        have h4 := cntP_bd p (pre.map (·.2) ++ [a])
        rw [List.length_map] at h1
        simp only [List.map_append, List.map_cons] at h1 h2 h3 ⊢
        omega
      refine k_seq_note hSW hL pairAt_here (fun p => by have := hc p; omega) (by omega) fun w18 c18 hL18 => ?_
      have hgW := hL.lt
      have x18 : Ext w w18 := Chg.of_new x c18 fun c hc => hc ▸ ng.fresh
      have hS18 := hS.ext x18
      obtain ⟨hk, _, g0, o0, hb0, _, c0, c1, c2⟩ := hS18.node
      refine ⟨s, cell_blk hS18.blk rfl, k, rfl, hk, g0, o0, hb0, _, c2, ⟨pre ++ [(k, a)], post, by simp, rfl, x18, ?_⟩, hS18.next⟩
      refine (hL18.mono (by simp)).of fun p => ?_
      have e1 : cntP (((k, a) :: post).map (·.2)) p = at1 a (post.map (·.2)) p + cntP (post.map (·.2)) p := rfl
      rw [at1_map] at e1
      rw [e1]; omega
  · cases post with
    | nil =>
      refine k_ledger_list hL (by simp at hl; omega) fun r w' L x' ho hch hlen hf => h r w' L (x.tr x') ho ?_ (by simpa using hlen) fun c hc => Nat.le_trans x.size (hf c hc)
      exact ⟨hch.ris, fun p v => by rw [hch.mem]; simp [cntP]⟩
    | cons q post => simp [nxt] at hp
theorem k_seq_Merge_none {p : Pr} {y : Int} {R : Int → Sl → World → Prop} (h : ∀ w', Ext w w' → R 0 ⟨none, 0, 0⟩ w') : Calls PP n_seq_Seq_Merge #[.pointer none, .agg #[.int .i64 p.1, .int .i64 p.2], .int .i64 y] w fun e w' => ∃ r : Int, ∃ q : Sl, e = .returned (.tuple #[.int .i64 r, q.v]) ∧ R r q w' := by
  refine vc_seq_Seq_Merge ?_
  unfold VC_seq_Seq_Merge
  exact fun b w2 hP => ⟨fun _ => h w2 hP.ext, fun h => absurd rfl h⟩
theorem k_seq_Merge {p : Pr} {y : Int} {R : Int → Sl → World → Prop} (hS : SqD w b s xs l) (hl : l.length ≤ 137438953472)
    (h : ∀ r w' L xs' l', Chg (fun c => c = b ∨ s.blk = some c) w w' → SqD w' b s xs' l' → l'.map (·.2) = joinI p y (l.map (·.2)) → OwnL w' t_seq_Change 3 chE r L →
      Chgs (fun q => cntP (joinI p y (l.map (·.2))) q - cntP (l.map (·.2)) q) L → L.length ≤ 5 * l.length → (∀ c, r.blk = some c → w.heap.size ≤ c) → R (manyI p (l.map (·.2))) r w') :
    Calls PP n_seq_Seq_Merge #[.pointer (some ⟨b, 0, none⟩), .agg #[.int .i64 p.1, .int .i64 p.2], .int .i64 y] w fun e w' => ∃ r : Int, ∃ q : Sl, e = .returned (.tuple #[.int .i64 r, q.v]) ∧ R r q w' := by
  refine vc_seq_Seq_Merge ?_
  unfold VC_seq_Seq_Merge
  intro b1 w2 hP
  refine ⟨fun h => (nomatch h), fun _ g w7 ng => ?_⟩
  have x7 : Ext w w7 := hP.ext.tr ng.ext
  have hS7 := hS.ext x7
  have hbl : b < w.heap.size := hS.lt
  have hb1 : w.heap.size ≤ b1 := hP.fresh
  have hb1l : b1 < w2.heap.size := hP.lt
  have hgl : w2.heap.size ≤ g := ng.fresh
  have hw2 := hP.ext.size
  have hsl : ∀ c, s.blk = some c → c < w.heap.size := fun c hc => hS.row.lt hc
  refine ⟨b, 0, rfl, _, cell_blk hS7.blk rfl, fun m i W => ∃ pre post xs', SqD W b s xs' (pre ++ post) ∧ i = nxt post ∧ Chg (fun c => c = b ∨ s.blk = some c ∨ c = g) w7 W ∧ joinI p y (l.map (·.2)) = pre.map (·.2) ++ joinI p y (post.map (·.2)) ∧ ((manyI p (l.map (·.2)) : Nat) : Int) = m + (manyI p (post.map (·.2)) : Nat) ∧ 0 ≤ m ∧ (pre ++ post).length + m.toNat = l.length ∧ Led W g (5 * m.toNat) (fun q => cntP ((pre ++ post).map (·.2)) q - cntP (l.map (·.2)) q),
    fun _ i _ => (if i < 0 then (0 : Int) else (s.n : Int) - i).toNat, ⟨[], l, xs, hS7, rfl, Chg.refl _, rfl, by omega, by omega, by simp, (Led.new ng).of fun q => by simp⟩, ?_⟩
  rintro m _ W ⟨pre, post, xs', hSW, rfl, cW, hj, hm, hm0, hlen, hL⟩
  have hW7 := cW.size
  have hw7 := ng.ext.size
  have hbW : b1 < W.heap.size := by omega
  refine ⟨fun hp => ?_, fun hp => ?_⟩
  · cases post with
    | nil => simp [nxt] at hp
    | cons q post =>
      obtain ⟨k, a⟩ := q
      have bd : ∀ q, -1099511627776 ≤ cntP ((pre ++ (k, a) :: post).map (·.2)) q - cntP (l.map (·.2)) q ∧ cntP ((pre ++ (k, a) :: post).map (·.2)) q - cntP (l.map (·.2)) q ≤ 1099511627776 := fun q => by
        have h1 := cntP_bd q ((pre ++ (k, a) :: post).map (·.2))
        have h2 := cntP_bd q (l.map (·.2))
        rw [List.length_map] at h1 h2
        omega
      -- behind a round: no join, or a join
      refine ⟨fun m' W' => ∃ xs'' a' post', SqD W' b s xs'' ((pre ++ [(k, a')]) ++ post') ∧ Chg (fun c => c = b ∨ s.blk = some c ∨ c = g) w7 W' ∧ joinI p y (l.map (·.2)) = (pre ++ [(k, a')]).map (·.2) ++ joinI p y (post'.map (·.2)) ∧ ((manyI p (l.map (·.2)) : Nat) : Int) = m' + (manyI p (post'.map (·.2)) : Nat) ∧ 0 ≤ m' ∧ ((pre ++ [(k, a')]) ++ post').length + m'.toNat = l.length ∧ Led W' g (5 * m'.toNat) (fun q => cntP (((pre ++ [(k, a')]) ++ post').map (·.2)) q - cntP (l.map (·.2)) q), ?_, ?_⟩
      · rintro m' W' ⟨xs'', a', post', hS', c', hj', hm', hm0', hlen', hL'⟩
        have hS'' : SqD W' b s xs'' (pre ++ (k, a') :: post') := by rw [List.append_assoc] at hS'; exact hS'
        obtain ⟨hk, _, g0, o0, hb0, _, c0, c1, c2⟩ := hS''.node
        exact ⟨s, cell_blk hS'.blk rfl, k, rfl, hk, g0, o0, hb0, _, c2, ⟨pre ++ [(k, a')], post', xs'', hS', rfl, c', hj', hm', hm0', hlen', hL'⟩, hS''.next⟩
      · refine k_seq_pair hSW pairAt_here fun w30 x30 => ⟨x30.keep hbW, fun b35 w36 hP35 w40 c40 => ?_⟩
        have x40 : Ext W w40 := x30.tr (hP35.then c40)
        have hS40 := hSW.ext x40
        have c740 : Chg (fun c => c = b ∨ s.blk = some c ∨ c = g) w7 w40 := cW.ext x40
        have hb40 : b1 < w40.heap.size := Nat.lt_of_lt_of_le hbW x40.size
        refine ⟨fun j W' => W' = w40 ∧ (j = true ↔ ∃ q post', post = q :: post' ∧ (a, q.2) = p), ?_, fun hs => ?_, fun hs => ?_⟩
        · rintro j _ ⟨rfl, hjj⟩
          refine ⟨fun hjt => ?_, fun hjf => ?_⟩
          · obtain ⟨⟨q1, q2⟩, post', rfl, hq⟩ := hjj.1 hjt
            refine k_seq_join (y := y) hS40 (hL.ext x40) (by omega) (fun e => by have := hsl g e; omega) (by simp at hlen ⊢; omega) (fun q => by have := bd q; omega) fun w52 xs'' c52 hS52 hL52 => ⟨c52.keep hb40 ?_, _, rfl, xs'', y, post', by rw [List.append_assoc]; exact hS52, c740.then c52, ?_, ?_, ?_, ?_, ?_⟩
            · rintro (e | e | e)
              · omega
              · have := hsl b1 e; omega
              · omega
            · rw [hj]; simp only [List.map_cons, List.map_append, List.map_nil, List.append_assoc, List.singleton_append]
              rw [(joinI_hit (s := y) hq).1]
            · rw [hm]; simp only [List.map_cons]
              rw [(joinI_hit (s := y) hq).2, wr64 (by simp at hlen; omega)]; omega
            · rw [wr64 (by simp at hlen; omega)]; omega
            · rw [wr64 (by simp at hlen; omega)]; simp at hlen ⊢; omega
            · rw [wr64 (by simp at hlen; omega)]
              refine (hL52.mono (by omega)).of fun q => ?_
              rw [List.append_assoc]; dsimp only
              show _ = cntP ((pre ++ (k, y) :: post').map (·.2)) q - _
              omega
          · have hnj : ∀ q post', post = q :: post' → (a, q.2) ≠ p := fun q post' e1 e2 => by
              rw [hjj.2 ⟨q, post', e1, e2⟩] at hjf; cases hjf
            refine ⟨xs', a, post, by rw [List.append_assoc]; exact hS40, c740, ?_, ?_, hm0, by rw [List.append_assoc]; exact hlen, ?_⟩
            · rw [hj]
              cases post with
              | nil => simp [joinI]
              | cons q post' => simp only [List.map_cons, List.map_append, List.map_nil, List.append_assoc, List.singleton_append]; rw [(joinI_miss (s := y) (hnj q post' rfl)).1]
            · rw [hm]
              cases post with
              | nil => simp [manyI]
              | cons q post' => simp only [List.map_cons]; rw [(joinI_miss (s := y) (hnj q post' rfl)).2]
            · refine (hL.ext x40).of fun q => ?_
              rw [List.append_assoc]; rfl
        · cases post with
          | nil => cases hs
          | cons q post' =>
            refine ⟨rfl, ?_⟩
            rw [decide_eq_true_eq]
            constructor
            · rintro ⟨h1, h2⟩
              exact ⟨q, post', rfl, Prod.ext h1 h2⟩
            · rintro ⟨q', p', e, hq⟩
              cases e
              rw [← hq]; exact ⟨rfl, rfl⟩
        · cases post with
          | nil =>
            refine ⟨rfl, ?_⟩
            constructor
            · intro h; cases h
            · rintro ⟨q', p', e, _⟩; cases e
          | cons q post' => cases hs
  · cases post with
    | nil =>
      refine k_ledger_list hL (by simp at hlen; omega) fun r w' L x' ho hch hlen' hf => ⟨x'.keep hbW, ?_⟩
      have hm2 : m = (manyI p (l.map (·.2)) : Nat) := by simp [manyI] at hm; omega
      rw [hm2]
      have c1 : Chg (fun c => c = b ∨ s.blk = some c ∨ c = g) w7 w' := cW.ext x'
      rw [List.append_nil] at hSW hch hlen
      have hjl : pre.map (·.2) = joinI p y (l.map (·.2)) := by rw [hj]; simp [joinI]
      refine h r w' L xs' pre (x7.chg.trans c1 (fun _ _ h => h) fun c hc hS => ?_) (hSW.ext x') hjl ho ⟨hch.ris, fun q v => ?_⟩ ?_ fun c hc => ?_
      · rcases hS with h | h | h
        · exact .inl h
        · exact .inr h
        · omega
      · rw [hch.mem, ← hjl]
      · omega
      · have := hf c hc; omega
    | cons q post => simp [nxt] at hp
end
end Go.Proofs.Ytchjcjocihckpaa.G
