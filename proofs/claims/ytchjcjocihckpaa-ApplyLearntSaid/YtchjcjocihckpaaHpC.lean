/- Contracts: a word as symbols: ledgers, chains, pairs. -/
import Derived.Test.YtchjcjocihckpaaHaC
import Derived.Test.YtchjcjocihckpaaPmC
namespace Go.Proofs.Ytchjcjocihckpaa.G
open Go Go.RowKit
/-! One cell of a row of one's own, written. -/
section
variable {α : Type} {w w1 : World} {e k : Nat} {enc : α → List Value} {s : Sl} {xs : List α}
theorem flat_set (hk : ∀ x, (enc x).length = k) {v : Value} {x' : α} {j : Nat} (hj : j < k) : ∀ (xs : List α) (i : Nat) (h : i < xs.length), enc x' = (enc xs[i]).set j v → (xs.set i x').flatMap enc = (xs.flatMap enc).set (i * k + j) v
  | x :: xs, 0, _, hx => by
    simp only [List.getElem_cons_zero] at hx
    rw [List.set_cons_zero, List.flatMap_cons, List.flatMap_cons, hx, Nat.zero_mul, Nat.zero_add, List.set_append_left _ _ (by rw [hk]; exact hj)]
  | x :: xs, i + 1, h, hx => by
    simp only [List.getElem_cons_succ] at hx
    rw [List.set_cons_succ, List.flatMap_cons, List.flatMap_cons, flat_set hk hj xs i (by simpa using h) hx, List.set_append_right _ _ (by rw [hk, Nat.succ_mul]; omega), hk]
    congr 2; rw [Nat.succ_mul]; omega
theorem OwnL.wr (h : OwnL w e k enc s xs) (hk : ∀ x, (enc x).length = k) (hk0 : 0 < k) {i j g o : Nat} (hi : i < s.n) (hj : j < k) (hb : s.b = some ⟨g, o, none⟩) : Wr w g (o + i * k + j) 1 := by
  obtain ⟨g', cur, h1, h2, h3, h4, h5, h6⟩ := h.blk (by rw [hb]; simp)
  rw [hb] at h1; cases h1
  refine ⟨cur, e, h2, ?_⟩
  rw [h5]
  have : (i + 1) * k ≤ s.c * k := Nat.mul_le_mul_right _ (by omega)
  rw [Nat.succ_mul] at this; omega
theorem OwnL.put (h : OwnL w e k enc s xs) (hk : ∀ x, (enc x).length = k) (hk0 : 0 < k) {i j g o : Nat} {v : Value} {x' : α} (hi : i < xs.length) (hj : j < k) (hx : enc x' = (enc xs[i]).set j v) (hb : s.b = some ⟨g, o, none⟩) (hw : w1 = setCells w g (o + i * k + j) [v]) : OwnL w1 e k enc s (xs.set i x') := by
  have hn := h.len hk hk0
  have hb0 := hb
  obtain ⟨h0, ⟨h2, h3⟩ | ⟨g', cap, cur, h2, h3, h4, h5, h6, h7, h8⟩⟩ := h
  · rcases s with ⟨b, n, c⟩; simp only [Sl.v, Value.slice.injEq] at h2; simp only at hb; rw [h2.1] at hb; cases hb
  have e1 : s.b = some ⟨g', 0, none⟩ ∧ s.c = cap := by rcases s with ⟨b, n, c⟩; simp only [Sl.v, Value.slice.injEq] at h2; exact ⟨h2.1, h2.2.2⟩
  rw [hb] at e1; obtain ⟨e1, e2⟩ := e1; cases e1
  have hlt : i * k + j < s.n * k := by
    have : (i + 1) * k ≤ s.n * k := Nat.mul_le_mul_right _ (by omega)
    rw [Nat.succ_mul] at this; omega
  refine ⟨by rw [flat_len hk, List.length_set, ← hn], .inr ⟨g, cap, cur.setIfInBounds (i * k + j) v, h2, h3, ?_, h5, h6, by simpa using h7, ?_⟩⟩
  · rw [Nat.zero_add] at hw
    exact sto_blk hw h4 rfl
  · rw [flat_set hk hj xs i hi hx, ← h8, Array.toList_setIfInBounds, List.take_set]
end
/-! Ledgers. -/
def Led (w : World) (g n : Nat) (d : Pr → Int) : Prop := ∃ es : List (Pr × Int), Mp pairV intV w (some g) es ∧ (∀ p, (mget p es).getD 0 = d p) ∧ (∀ q ∈ es, q.2 ≠ 0) ∧ es.length ≤ n
section
variable {w w1 : World} {g n : Nat} {d : Pr → Int}
theorem Led.chg {S : Nat → Prop} (h : Led w g n d) (x : Chg S w w1) (hn : ¬ S g) : Led w1 g n d := by
  obtain ⟨es, h1, h2⟩ := h
  exact ⟨es, h1.chg x fun b hb => by cases hb; exact hn, h2⟩
theorem Led.ext (h : Led w g n d) (x : Ext w w1) : Led w1 g n d := h.chg x id
theorem Led.lt (h : Led w g n d) : g < w.heap.size := by obtain ⟨es, h1, _⟩ := h; exact h1.lt
theorem Led.new {b : Nat} (h : New w b (.map #[] 0) w1) : Led w1 b 0 fun _ => 0 := ⟨[], Mp.new h, fun _ => rfl, fun q hq => (nomatch hq), Nat.le_refl _⟩
theorem Led.mono {m : Nat} (h : Led w g n d) (hm : n ≤ m) : Led w g m d := by
  obtain ⟨es, h1, h2, h3, h4⟩ := h
  exact ⟨es, h1, h2, h3, Nat.le_trans h4 hm⟩
theorem Led.of {d' : Pr → Int} (h : Led w g n d) (e : ∀ p, d p = d' p) : Led w g n d' := by rw [← funext e]; exact h
theorem mput_in {α β : Type} [DecidableEq α] {a : α} {c : β} : ∀ {l : List (α × β)} {q}, q ∈ mput a c l → q = (a, c) ∨ q ∈ l
  | [], q, h => by simp only [mput, List.mem_singleton] at h; exact .inl h
  | p :: l, q, h => by
    simp only [mput] at h
    split at h
    · rcases List.mem_cons.1 h with h | h
      · exact .inl h
      · exact .inr (List.mem_cons_of_mem _ h)
    · rcases List.mem_cons.1 h with h | h
      · exact .inr (h ▸ List.mem_cons_self)
      · rcases mput_in h with h | h
        · exact .inl h
        · exact .inr (List.mem_cons_of_mem _ h)
theorem mput_len {α β : Type} [DecidableEq α] {a : α} {c : β} : ∀ l : List (α × β), (mput a c l).length ≤ l.length + 1
  | [] => by simp [mput]
  | p :: l => by
    simp only [mput]; split
    · simp
    · have := mput_len (a := a) (c := c) l; simp only [List.length_cons]; omega
theorem mdel_len {α β : Type} [DecidableEq α] {a : α} : ∀ l : List (α × β), (mdel a l).length ≤ l.length
  | [] => by simp [mdel]
  | p :: l => by
    simp only [mdel]; split
    · simp
    · have := mdel_len (a := a) l; simp only [List.length_cons]; omega
theorem Led.add {es : List (Pr × Int)} {p : Pr} {z : Int} (hM : Mp pairV intV w (some g) (mput p z es)) (hd : ∀ p, (mget p es).getD 0 = d p) (hz : ∀ q ∈ es, q.2 ≠ 0) (h0 : z ≠ 0) (hl : es.length ≤ n) : Led w g (n + 1) fun q => if q = p then z else d q :=
  ⟨_, hM, fun q => by
    rw [mget_mput]
    show _ = if q = p then z else d q
    by_cases e : p = q
    · rw [if_pos e, if_pos e.symm]; rfl
    · rw [if_neg e, if_neg fun h => e h.symm, hd], fun q hq => by
    rcases mput_in hq with rfl | hq
    · exact h0
    · exact hz q hq, Nat.le_trans (mput_len es) (by omega)⟩
theorem Led.del {es : List (Pr × Int)} {p : Pr} (hn : ((mput p 0 es).map (·.1)).Nodup) (hM : Mp pairV intV w (some g) (mdel p (mput p 0 es))) (hd : ∀ p, (mget p es).getD 0 = d p) (hz : ∀ q ∈ es, q.2 ≠ 0) (hl : es.length ≤ n) : Led w g (n + 1) fun q => if q = p then 0 else d q :=
  ⟨_, hM, fun q => by
    rw [mget_mdel hn, mget_mput]
    show _ = if q = p then 0 else d q
    by_cases e : p = q
    · rw [if_pos e, if_pos e.symm]; rfl
    · rw [if_neg e, if_neg e, if_neg fun h => e h.symm, hd], fun q hq h0 => by
    rcases mput_in (mdel_sub hq) with rfl | hq'
    · have := mget_mdel (c := p) (a := p) hn
      rw [if_pos rfl] at this
      exact mget_none.1 this (List.mem_map.2 ⟨_, hq, rfl⟩)
    · exact hz q hq' h0, Nat.le_trans (mdel_len _) (Nat.le_trans (mput_len es) (by omega))⟩
theorem k_ledger_add {p : Pr} {y : Int} {R : World → Prop} (hL : Led w g n d) (hb : -9000000000000000000 ≤ d p + y ∧ d p + y ≤ 9000000000000000000)
    (h : ∀ w', Chg (fun c => c = g) w w' → Led w' g (n + 1) (fun q => d q + if q = p then y else 0) → R w') :
    Calls PP n_seq_ledger_add #[.map (some g), .agg #[.int .i64 p.1, .int .i64 p.2], .int .i64 y] w fun e w' => e = .returned (.tuple #[]) ∧ R w' := by
  refine vc_seq_ledger_add (a1_0 := p.1) (a1_1 := p.2) ?_
  unfold VC_seq_ledger_add
  obtain ⟨es, hM, hd, hz, hln⟩ := hL
  intro b w2 hP
  have hbg : b ≠ g := by have := hM.lt; have := hP.fresh; omega
  have hM2 := hM.ext hP.ext
  refine ⟨fun w7 => Chg (fun c => c = g) w w7 ∧ Mp pairV intV w7 (some g) (mput p (d p + y) es), ?_, ⟨es, hM2, _, rfl, _, rfl, fun w10 x10 => ⟨g, rfl, es, hM2.ext x10, hbg, fun w17 st hE c17 => ⟨_, _, hE, hbg, fun w25 hM25 c25 => ?_⟩⟩⟩, fun w10 x10 => ⟨g, rfl, es, hM2.ext x10, hbg, fun w33 st hE c33 => ⟨_, hE.mp, _, rfl, _, rfl, _, _, hE, hbg, fun w45 hM45 c45 => ?_⟩⟩⟩
  · rintro w7 ⟨c7, hM7⟩
    refine ⟨_, hM7, _, rfl, fun h0 => ⟨_, hM7, fun e => hbg (by cases e; rfl), fun w57 hM57 c57 => ?_⟩, fun h0 => ?_⟩
    · rw [mget_mput, if_pos rfl, Option.getD_some] at h0
      have c : Chg (fun c => c = g) w w57 := c7.then (c57.mono fun x _ e => by cases e; rfl)
      refine h w57 c ((Led.del (d := d) (by have := hM7.nd; rw [h0] at this; exact this) (by rw [h0] at hM57; exact hM57) hd hz hln).of fun q => ?_)
      by_cases e : q = p
      · subst e; rw [if_pos rfl, if_pos rfl, h0]
      · rw [if_neg e, if_neg e]; omega
    · rw [mget_mput, if_pos rfl, Option.getD_some] at h0
      refine h w7 c7 ((Led.add hM7 hd hz h0 hln).of fun q => ?_)
      by_cases e : q = p
      · subst e; rw [if_pos rfl, if_pos rfl]
      · rw [if_neg e, if_neg e]; omega
  · have e1 : IntKind.wrap .i64 ((mget (p.1, p.2) es).getD 0 + y) = d p + y := by rw [show (p.1, p.2) = p from rfl, hd, wr64 (by omega)]
    rw [mput_mput, e1] at hM25
    exact ⟨(((hP.ext.tr x10).chg).then c17).then c25, hM25⟩
  · have e1 : IntKind.wrap .i64 ((mget (p.1, p.2) (mput (p.1, p.2) ((mget (p.1, p.2) es).getD 0) es)).getD 0 + y) = d p + y := by
      rw [mget_mput, if_pos rfl, Option.getD_some, show (p.1, p.2) = p from rfl, hd, wr64 (by omega)]
    rw [mput_mput, e1] at hM45
    exact ⟨(((hP.ext.tr x10).chg).then c33).then c45, hM45⟩
end
/-! Chains in memory. -/
def clE (c : Cl) : List Value := [.int .i64 c.1, .int .i64 c.2.1, .int .i64 c.2.2]
theorem clE_len (c : Cl) : (clE c).length = 3 := rfl
structure SqD (w : World) (b : Nat) (s : Sl) (xs : List Cl) (l : List (Nat × Int)) : Prop where
  blk : w.heap[b]? = some (.cells #[s.v, .int .i64 (nxt l), .int .i64 ((l.length : Nat) : Int)] t_seq_Seq (0, 0))
  row : OwnL w t_seq_cell 3 clE s xs
  chn : Chn xs (-1) l
  inc : (l.map (·.1)).Pairwise (· < ·)
  ne : s.blk ≠ some b
/-- The pair that begins at a place. -/
def PairAt (l : List (Nat × Int)) (i : Int) (po : Option Pr) : Prop := (i < 0 ∧ po = none) ∨ ∃ pre k a post, l = pre ++ (k, a) :: post ∧ i = ((k : Nat) : Int) ∧ po = post.head?.map fun q : Nat × Int => (a, q.2)
section
variable {w w1 : World} {b : Nat} {s : Sl} {xs : List Cl} {l : List (Nat × Int)}
theorem SqD.chg {S : Nat → Prop} (h : SqD w b s xs l) (x : Chg S w w1) (hb : ¬ S b) (hs : ∀ c, s.blk = some c → ¬ S c) : SqD w1 b s xs l :=
  { blk := x.get h.blk hb, row := h.row.chg x hs, chn := h.chn, inc := h.inc, ne := h.ne }
theorem SqD.ext (h : SqD w b s xs l) (x : Ext w w1) : SqD w1 b s xs l := h.chg x id fun _ _ => id
theorem SqD.lt (h : SqD w b s xs l) : b < w.heap.size := lt_of_blk h.blk
theorem SqD.len (h : SqD w b s xs l) : s.n = xs.length := h.row.len clE_len (by decide)
theorem SqD.cap (h : SqD w b s xs l) : l.length ≤ s.n := by
  have h1 := h.inc
  have h2 := Chn.lt h.chn
  have hn := h.len
  have key : ∀ (L : List Nat) (m : Nat), L.Pairwise (· < ·) → (∀ i ∈ L, m ≤ i ∧ i < s.n) → m + L.length ≤ max m s.n := by
    intro L
    induction L with
    | nil => intro m _ _; simp; omega
    | cons a L ih =>
      intro m hp hb
      rw [List.pairwise_cons] at hp
      have ha := hb a List.mem_cons_self
      have := ih (a + 1) hp.2 fun i hi => ⟨hp.1 i hi, (hb i (List.mem_cons_of_mem _ hi)).2⟩
      rw [List.length_cons]; omega
  have := key (l.map (·.1)) 0 h1 fun i hi => by
    obtain ⟨q, hq, rfl⟩ := List.mem_map.1 hi
    exact ⟨Nat.zero_le _, by have := h2 q hq; omega⟩
  rw [List.length_map] at this; omega
theorem SqD.node {pre post : List (Nat × Int)} {k : Nat} {a : Int} (h : SqD w b s xs (pre ++ (k, a) :: post)) : k < s.n ∧ xs[k]? = some (a, lst (-1) pre, nxt post) ∧ ∃ g o, s.b = some ⟨g, o, none⟩ ∧ s.blk = some g ∧
    w.cell? ⟨g, o + k * 3, none⟩ = some (.int .i64 a) ∧ w.cell? ⟨g, o + k * 3 + 1, none⟩ = some (.int .i64 (lst (-1) pre)) ∧ w.cell? ⟨g, o + k * 3 + 2, none⟩ = some (.int .i64 (nxt post)) := by
  have hg := Chn.get h.chn
  have hk : k < s.n := by rw [h.len]; exact gl hg
  obtain ⟨g, o, hb, hi, hc⟩ := (h.row.rows clE_len (by decide)).get (i := k) hk
  have e : xs[k] = (a, lst (-1) pre, nxt post) := by
    have := List.getElem?_eq_getElem hi
    rw [this] at hg; exact Option.some.inj hg
  rw [e] at hc
  exact ⟨hk, hg, g, o, hb, by simp [Sl.blk, hb], hc.1, hc.2.1, hc.2.2.1⟩
theorem k_seq_pair {i : Int} {po : Option Pr} {R : Int → Int → Bool → World → Prop} (hS : SqD w b s xs l) (hp : PairAt l i po) (h : ∀ w', Ext w w' → R (po.getD (0, 0)).1 (po.getD (0, 0)).2 po.isSome w') :
    Calls PP n_seq_Seq_pair #[.pointer (some ⟨b, 0, none⟩), .int .i64 i] w fun e w' => ∃ r0 r1 : Int, ∃ q : Bool, e = .returned (.tuple #[.agg #[.int .i64 r0, .int .i64 r1], .bool q]) ∧ R r0 r1 q w' := by
  refine vc_seq_Seq_pair ?_
  unfold VC_seq_Seq_pair
  intro c w2 hP
  have hS2 := hS.ext hP.ext
  refine ⟨fun j w' => w' = w2 ∧ j = decide (po = none), ?_, fun hi => ?_, fun hi => ?_⟩
  · rintro j w' ⟨rfl, rfl⟩
    refine ⟨fun hj w3 c3 => ?_, fun hj => ?_⟩
    · have : po = none := of_decide_eq_true hj
      subst this
      exact h w3 (hP.then c3)
    · have hne := of_decide_eq_false hj
      rcases hp with ⟨_, e⟩ | ⟨pre, k, a, post, rfl, rfl, rfl⟩
      · exact absurd e hne
      · cases post with
        | nil => exact absurd rfl hne
        | cons q post =>
          obtain ⟨hk, _, g, o, hb, _, c0, c1, c2⟩ := hS2.node
          have hS3 : SqD w' b s xs ((pre ++ [(k, a)]) ++ (q.1, q.2) :: post) := by rw [List.append_assoc]; exact hS2
          obtain ⟨hk', _, g', o', hb', _, c0', _, _⟩ := hS3.node
          rw [hb] at hb'; cases hb'
          exact ⟨b, 0, rfl, s, cell_blk hS2.blk rfl, k, rfl, hk, g, o, hb, a, c0, _, c2, q.1, rfl, hk', q.2, c0', fun w3 c3 => h w3 (hP.then c3)⟩
  · rcases hp with ⟨_, rfl⟩ | ⟨pre, k, a, post, rfl, rfl, rfl⟩
    · exact ⟨rfl, by simp⟩
    · omega
  · rcases hp with ⟨h1, rfl⟩ | ⟨pre, k, a, post, rfl, rfl, rfl⟩
    · omega
    · obtain ⟨hk, _, g, o, hb, _, c0, c1, c2⟩ := hS2.node
      refine ⟨b, 0, rfl, s, cell_blk hS2.blk rfl, k, rfl, hk, g, o, hb, _, c2, rfl, decide_eq_decide.2 ?_⟩
      cases post with
      | nil => simp [nxt]
      | cons q post => simp [nxt]
theorem k_seq_note {g n : Nat} {d : Pr → Int} {i y : Int} {po : Option Pr} {R : World → Prop} (hS : SqD w b s xs l) (hL : Led w g n d) (hp : PairAt l i po) (hb : ∀ p, -8000000000000000000 ≤ d p ∧ d p ≤ 8000000000000000000) (hy : -1 ≤ y ∧ y ≤ 1)
    (h : ∀ w', Chg (fun c => c = g) w w' → Led w' g (n + 1) (fun q => d q + if po = some q then y else 0) → R w') :
    Calls PP n_seq_Seq_note #[.pointer (some ⟨b, 0, none⟩), .map (some g), .int .i64 i, .int .i64 y] w fun e w' => e = .returned (.tuple #[]) ∧ R w' := by
  refine vc_seq_Seq_note ?_
  unfold VC_seq_Seq_note
  refine k_seq_pair hS hp fun w2 x2 c w7 hP w10 c10 => ⟨fun hj => ?_, fun hj => ?_⟩
  · have x10 : Ext w w10 := x2.tr (hP.then c10)
    obtain ⟨p, rfl⟩ := Option.isSome_iff_exists.1 hj
    have hbp := hb p
    have hL10 := hL.ext x10
    have hcg : g ≠ c := by have := hL.lt; have := x2.size; have := hP.fresh; omega
    refine k_ledger_add (p := p) (y := y) hL10 (by omega) fun w14 c14 hL14 => ⟨c14.keep (by have := hP.lt; have := c10.size; omega) hcg.symm, h w14 (x10.chg.then c14) (hL14.of fun q => ?_)⟩
    by_cases e : q = p
    · subst e; simp
    · have : ¬ some p = some q := fun h => e (Option.some.inj h).symm
      rw [if_neg e, if_neg this]
  · have : po = none := by cases po with | none => rfl | some p => cases hj
    subst this
    refine h w10 ((x2.tr (hP.then c10)).chg) (((hL.ext (x2.tr (hP.then c10))).mono (Nat.le_succ n)).of fun q => ?_)
    simp
end
end Go.Proofs.Ytchjcjocihckpaa.G
