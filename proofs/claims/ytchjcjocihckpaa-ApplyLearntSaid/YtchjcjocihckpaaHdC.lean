/- Contracts: joining in the table of symbols; the check of merges by it. -/
import Derived.Test.YtchjcjocihckpaaHcC
namespace Go.Proofs.Ytchjcjocihckpaa.G
open Go Go.RowKit
theorem txOf_size {js : List Jd} (hs : ∀ j ∈ js, j.tx.size ≤ 65536) {a : Int} {s : BA} (h : txOf js a = some s) : s.size ≤ 65536 := by
  unfold txOf at h
  split at h
  · cases h
  · split at h
    · cases h; rw [one_size]; omega
    · rw [Option.map_eq_some_iff] at h
      obtain ⟨j, hj, rfl⟩ := h
      exact hs j (gm hj)
theorem idx_snoc (x : BA) (js : List Jd) (j : Jd) : idx x (js ++ [j]) = (idx x js).or (if j.tx = x then some ((256 + js.length : Nat) : Int) else none) := by
  unfold idx at?
  rw [List.findIdx?_append]
  cases js.findIdx? fun j => decide (j.tx = x) with
  | some i => rfl
  | none =>
    by_cases h : j.tx = x
    · simp [h]
    · simp [h]
section
variable {w w1 : World} {b : Nat} {S S' : Nat → Prop} {js : List Jd}
theorem k_sym_Join {p q : Int} {R : Int → Int → World → Prop} (hT : Tab w b S js) (hl : js.length ≤ 1099511627776)
    (h : ∀ w' S', Chg S w w' → (∀ c, S' c → S c ∨ w.heap.size ≤ c) → Tab w' b S' (joinS js p q).1 → R (joinS js p q).2.1 (joinS js p q).2.2 w') :
    Calls PP n_sym_Table_Join #[.pointer (some ⟨b, 0, none⟩), .int .i64 p, .int .i64 q] w fun e w' => ∃ (r : Int) (r' : Int), e = .returned (.tuple #[.int .i64 r, .int .i64 r']) ∧ R r r' w' := by
  refine vc_sym_Table_Join ?_
  unfold VC_sym_Table_Join
  refine k_sym_Text hT hl fun w2 x2 => k_sym_Text (hT.ext x2) hl fun w3 x3 => ?_
  have x3 := x2.tr x3
  refine ⟨fun j w' => Ext w w' ∧ j = !((txOf js p).isSome && (txOf js q).isSome), ?_, fun h1 => ⟨x3, by rw [h1, Bool.true_and]⟩, fun h1 => ⟨x3, by rw [h1, Bool.false_and]; rfl⟩⟩
  rintro j w4 ⟨x4, rfl⟩
  refine ⟨fun hj => ?_, fun hj => ?_⟩
  · have e : joinS js p q = (js, 0, 1) := by
      unfold joinS
      cases e1 : txOf js p with
      | none => rfl
      | some s => cases e2 : txOf js q with
        | none => rfl
        | some t => rw [e1, e2] at hj; cases hj
    have := h w4 S x4.chg (fun c hc => .inl hc) (by rw [e]; exact hT.ext x4)
    rw [e] at this; exact this
  · obtain ⟨e1, e2⟩ : (txOf js p).isSome = true ∧ (txOf js q).isSome = true := by simpa using hj
    obtain ⟨s, e1⟩ := Option.isSome_iff_exists.1 e1
    obtain ⟨t, e2⟩ := Option.isSome_iff_exists.1 e2
    rw [e1, e2]
    simp only [Option.getD_some]
    have hT4 := hT.ext x4
    have hT5 := hT4
    obtain ⟨l, m, es, hD⟩ := hT5
    have z1 := txOf_size hD.sz e1
    have z2 := txOf_size hD.sz e2
    have z3 := ba_append_size s t
    refine ⟨_, rfl, ?_⟩
    rw [wr64 (by omega)]
    refine ⟨fun h4 => ?_, fun h4 => ⟨by omega, k_sym_Find hT4 ⟨fun h8 => ?_, fun h8 => ?_⟩⟩⟩
    · have e : joinS js p q = (js, 0, 4) := by unfold joinS; rw [e1, e2]; exact if_pos (by omega)
      have := h w4 S x4.chg (fun c hc => .inl hc) (by rw [e]; exact hT4)
      rw [e] at this; exact this
    · have e : joinS js p q = (js, 0, 8) := by unfold joinS; rw [e1, e2]; exact (if_neg (by omega)).trans (if_pos h8)
      have := h w4 S x4.chg (fun c hc => .inl hc) (by rw [e]; exact hT4)
      rw [e] at this; exact this
    · have e : joinS js p q = (js ++ [(p, q, s ++ t)], ((256 + js.length : Nat) : Int), 0) := by unfold joinS; rw [e1, e2]; exact (if_neg (by omega)).trans (if_neg (by rw [h8]; decide))
      have hnone : idx (s ++ t) js = none := by
        have : fnd js (s ++ t) = none := by simpa using h8
        unfold fnd at this; split at this
        · cases this
        · exact this
      refine ⟨fun w5 => ∃ S2 l m es, TabD w5 b S2 js l (some m) es ∧ (∀ c, S2 c → S c ∨ w.heap.size ≤ c) ∧ Chg S w w5, ?_, b, 0, rfl, m, cell_blk hD.blk rfl, fun hm => ?_, fun hm => ?_⟩
      · rintro w5 ⟨S2, l, m, es, hD, hS2, x5⟩
        have hn := hD.row.len jdE_len (by decide)
        refine k_sym_Len ⟨_, _, _, hD⟩ hl ⟨b, 0, rfl, some m, cell_blk hD.blk rfl, m, rfl, es, hD.map, fun w6 hM x6 => ?_⟩
        have hmb := hD.ownm m rfl
        have b6 := x6.get hD.blk (fun e => hmb.2.1 e.symm)
        refine ⟨l, cell_blk b6 rfl, _, hD.row.chg x6 (fun c hc e => hmb.2.2 (e ▸ hc)), ⟨by omega, by show _ ≤ 9223372036854775807; omega⟩, fun s7 w7 hA => ?_⟩
        have b7 := hA.chg.get b6 (fun e => (hD.ownl _ e).2 rfl)
        refine ⟨⟨_, _, b7, Nat.le_of_ble_eq_true rfl⟩, fun w8 e8 => ?_⟩
        have c8 := sto_chg e8
        have b8 : w8.heap[b]? = some (.cells #[s7.v, .map (some m)] t_sym_Table (0, 0)) := sto_blk e8 b7
        have sz6 : w5.heap.size ≤ w6.heap.size := x6.size
        have hs7 : ∀ c, s7.blk = some c → c ≠ b ∧ c ≠ m ∧ (S2 c ∨ w.heap.size ≤ c) := by
          intro c hc
          have hbl := hD.lt b hD.own
          have hml := hD.lt m hmb.1
          rcases hA.lt hc with h | h
          · exact ⟨(hD.ownl c h).2, fun e => hmb.2.2 (e ▸ h), .inl (hD.ownl c h).1⟩
          · exact ⟨by omega, by omega, .inr (Nat.le_trans x5.size (Nat.le_trans x6.size h))⟩
        have X : Chg S2 w5 w8 := (x6.mono fun c _ hc => hc ▸ hmb.1).trans (hA.chg.trans c8 (fun c _ hc => (hD.ownl c hc).1) (fun c _ hc => hc ▸ hD.own)) (fun _ _ h => h) (fun _ _ h => h)
        have hown : OwnL w8 t_sym_joined 3 jdE s7 (js ++ [(p, q, s ++ t)]) := (hA.ownL (x := ((p, q, s ++ t) : Jd)) rfl).chg c8 fun c hc e => (hs7 c hc).1 e
        rw [e] at h
        refine h w8 (fun c => S2 c ∨ s7.blk = some c) ?_ ?_ ?_
        · exact x5.trans X (fun _ _ h => h) fun c hc h => (hS2 c h).elim id fun h => by omega
        · rintro c (hc | hc)
          · exact hS2 c hc
          · exact (hs7 c hc).2.2.elim (hS2 c) .inr
        · refine ⟨s7, some m, mput (s ++ t) ((256 + js.length : Nat) : Int) es, ?_⟩
          exact { blk := b8, row := hown, map := (hM.chg hA.chg fun c hc e => hmb.2.2 (hc ▸ e)).chg c8 fun c hc e => hmb.2.1 (by cases hc; exact e)
                  get := fun x => by
                    rw [mget_mput, idx_snoc, hD.get]
                    by_cases hx : s ++ t = x
                    · subst hx; rw [hnone, if_pos rfl]; rfl
                    · rw [if_neg hx, if_neg hx, Option.or_none]
                  sz := fun j hj => by
                    rcases List.mem_append.1 hj with hj | hj
                    · exact hD.sz j hj
                    · simp only [List.mem_singleton] at hj; subst hj; show (s ++ t).size ≤ 65536; omega
                  own := .inl hD.own
                  ownl := fun c hc => ⟨.inr hc, (hs7 c hc).1⟩
                  ownm := fun c hc => ⟨.inl (hD.ownm c hc).1, (hD.ownm c hc).2.1, fun e => by cases hc; exact (hs7 m e).2.1 rfl⟩
                  lt := fun c hc => by
                    rcases hc with hc | hc
                    · exact Nat.lt_of_lt_of_le (hD.lt c hc) X.size
                    · exact hown.lt hc }
      · intro c w5 hN
        have b5 := hN.ext.get hD.blk
        refine ⟨⟨_, _, b5, Nat.le_of_ble_eq_true rfl⟩, fun w6 e6 => ?_⟩
        have c6 := sto_chg e6
        have b6 : w6.heap[b]? = some (.cells #[l.v, .map (some c)] t_sym_Table (0, 0)) := sto_blk e6 b5
        have hbl := hD.lt b hD.own
        have hcf := hN.fresh
        have hes : es = [] := by
          subst hm
          rcases hD.map with ⟨_, h⟩ | ⟨b', _, _, h, _⟩
          · exact h
          · cases h
        refine ⟨fun x => S x ∨ x = c, l, c, [], ?_, ?_, x4.chg.trans (hN.ext.chg.trans c6 (fun _ _ h => h) fun x _ hx => (hx ▸ hD.own : S x)) (fun _ _ h => h) (fun _ _ h => h)⟩
        · exact { blk := b6, row := (hD.row.ext hN.ext).chg c6 fun x hx e => (hD.ownl x hx).2 e, map := (Mp.new hN).chg c6 fun x hx e => by cases hx; omega, get := hes ▸ hD.get, sz := hD.sz, own := .inl hD.own
                  ownl := fun x hx => ⟨.inl (hD.ownl x hx).1, (hD.ownl x hx).2⟩
                  ownm := fun x hx => by
                    cases hx
                    exact ⟨.inr rfl, by omega, fun e => by have := hD.lt c (hD.ownl c e).1; omega⟩
                  lt := fun x hx => by
                    have := c6.size
                    have := hN.ext.size
                    have := hN.lt
                    rcases hx with hx | hx
                    · have := hD.lt x hx; omega
                    · omega }
        · rintro x (hx | hx)
          · exact .inl hx
          · right; have := x4.size; omega
      · cases m with
        | none => exact absurd rfl hm
        | some m => exact ⟨S, l, m, es, hD, fun c hc => .inl hc, x4.chg⟩
theorem k_file_join {m : Mg} {R : Int → World → Prop} (hT : Tab w b S js) (hl : js.length ≤ 1099511627776)
    (h : ∀ w' S', Chg S w w' → (∀ c, S' c → S c ∨ w.heap.size ≤ c) → Tab w' b S' (fileJoin js m).1 → R (fileJoin js m).2 w') :
    Calls PP n_file_join #[.pointer (some ⟨b, 0, none⟩), .agg #[.string m.1, .string m.2]] w fun e w' => ∃ r : Int, e = .returned (.int .i64 r) ∧ R r w' := by
  refine vc_file_join ?_
  unfold VC_file_join
  intro c w2 hP
  have hT2 := hT.ext hP.ext
  refine k_sym_Find hT2 ⟨rfl, k_sym_Find hT2 ⟨rfl, fun h1 => ⟨fun h2 => ?_, fun h2 => ?_⟩, fun h1 => ?_⟩⟩
  · obtain ⟨x, e1⟩ := Option.isSome_iff_exists.1 h1
    obtain ⟨y, e2⟩ := Option.isSome_iff_exists.1 h2
    rw [e1, e2]
    have e : fileJoin js m = ((joinS js x y).1, (joinS js x y).2.2) := by unfold fileJoin; rw [e1, e2]
    refine k_sym_Join hT2 hl fun w' S' x' hs hT' => ⟨x'.keep hP.lt fun hc => ?_, ?_⟩
    · have := hT.lt c hc; have := hP.fresh; omega
    · rw [e] at h
      refine h w' S' (Chg.pre hP.ext x') (fun c' hc' => (hs c' hc').elim .inl fun hq => .inr (Nat.le_trans hP.ext.size hq)) hT'
  · have e : fileJoin js m = (js, 7) := by
      unfold fileJoin
      cases e1 : fnd js m.1 with
      | none => rfl
      | some x => cases e2 : fnd js m.2 with
        | none => rfl
        | some y => rw [e2] at h2; cases h2
    rw [e] at h
    exact h w2 S hP.ext.chg (fun c hc => .inl hc) hT2
  · have e : fileJoin js m = (js, 7) := by
      unfold fileJoin
      cases e1 : fnd js m.1 with
      | none => rfl
      | some x => rw [e1] at h1; cases h1
    rw [e] at h
    exact h w2 S hP.ext.chg (fun c hc => .inl hc) hT2
theorem k_file_Check {s : Sl} {ms : List Mg} {R : Int → Int → World → Prop} (hx : Rows w 2 mgE s ms) (hlen : ms.length ≤ 1099511627776) (h : ∀ w', Ext w w' → R (check ms).1 (check ms).2 w') :
    Calls PP n_file_Check #[s.v] w fun e w' => ∃ (r : Int) (q : Int), e = .returned (.tuple #[.int .i64 r, .int .i64 q]) ∧ R r q w' := by
  refine vc_file_Check ?_
  unfold VC_file_Check
  have l1 := hx.len
  refine k_sym_New fun b w1 x1 hb hT => ?_
  refine ⟨fun l w' => ∃ (k : Nat) (S : Nat → Prop) (js : List Jd), l = k ∧ k ≤ ms.length ∧ Ext w w' ∧ check ms = checkFrom (ms.take k) (ms.drop k) ∧ Tab w' b S js ∧ (∀ c, S c → w.heap.size ≤ c) ∧ Made (ms.take k) js, fun l _ => (ms.length - l).toNat,
    ⟨0, _, [], rfl, by omega, x1, rfl, hT, fun c hc => by subst hc; exact hb, Made.nil⟩, ?_⟩
  rintro _ w2 ⟨k, S, js, rfl, hk, x2, hck, hT, hS, hM⟩
  refine ⟨fun hl => ?_, fun hl => ?_⟩
  · obtain ⟨g, o, m, hg, hme, hc, hc2⟩ := (hx.ext x2).mg (i := k) (by omega)
    refine ⟨k, rfl, by omega, g, o, hg, m.1, m.2, ⟨hc, hc2, trivial⟩, fun c w3 hP w4 x4 => ?_⟩
    have x4 := hP.then x4
    have hjl : js.length = k := by have := congrArg List.length hM.tx; simp at this; omega
    have hd := hP.lt
    refine k_file_join (m := m) (hT.ext x4) (by omega) fun w5 S' x5 hs hT' => ?_
    obtain ⟨m1, m2, m3⟩ := made_join hM m
    obtain ⟨ba, bz⟩ := check_at hme hck
    have x5' := x5
    refine ⟨x5.keep (Nat.lt_of_lt_of_le hd (Chg.size ‹Chg (fun b => b = c) w3 w4›)) fun hc => ?_, fun hne => ?_, fun he => ?_⟩
    · have := hT.lt c hc; have := hP.fresh; omega
    · have hbd : bad (ms.take k) m ≠ 0 := by rw [← m1]; omega
      have := ba hbd
      have := h w5 (Chg.of_new (x2.tr x4) x5 hS)
      rw [‹check ms = _›, ← m1] at this; exact this
    · have hz : (fileJoin js m).2 = 0 := by have := Decidable.not_not.1 he; omega
      obtain ⟨x, y, e1, e2, e3, hM'⟩ := m2 hz
      refine ⟨k + 1, ?_, ⟨k + 1, S', _, by simp, by omega, Chg.of_new (x2.tr x4) x5 hS, bz (by rw [← m1, hz]), hT', fun c hc => ?_, by rw [tk hme, e3]; exact hM'⟩, by dsimp only; omega⟩
      · have := hx.lim; exact (wr64 (by omega)).symm
      · rcases hs c hc with h | h
        · exact hS c h
        · exact Nat.le_trans (x2.tr x4).size h
  · have := h w2 x2
    rw [check_end (by omega) hck] at this; exact this
end
end Go.Proofs.Ytchjcjocihckpaa.G
