/- Plain: tables of words: sorted, each with its count. -/
import Derived.Test.YtchjcjocihckpaaPc
namespace Go.Proofs.Ytchjcjocihckpaa.G
open Go Go.RowKit
/-- A word and its count. -/
abbrev Wd := BA × Int
def wdE (x : Wd) : List Value := [.string x.1, .int .i64 x.2]
theorem wdE_len (m : Wd) : (wdE m).length = 2 := rfl
theorem Rows.wd {w : World} {s : Sl} {i : Nat} {l : List Wd} (h : Rows w 2 wdE s l) (hi : i < s.n) : ∃ b o m, s.b = some ⟨b, o, none⟩ ∧ l[i]? = some m ∧ w.cell? ⟨b, o + i * 2, none⟩ = some (.string m.1) ∧ w.cell? ⟨b, o + i * 2 + 1, none⟩ = some (.int .i64 m.2) := by
  obtain ⟨b, o, e, hl, hc⟩ := h.get hi
  exact ⟨b, o, l[i], e, List.getElem?_eq_getElem hl, (show Cells w b (o + i * 2) [_, _] from hc).1, (show Cells w b (o + i * 2) [_, _] from hc).2.1⟩
/-! The order of texts. -/
theorem bl_irr : ∀ l : List UInt8, Op.bytesLess l l = false
  | [] => rfl
  | a :: l => by simp [Op.bytesLess, bl_irr l, UInt8.lt_irrefl]
theorem bl_trans : ∀ {a b c : List UInt8}, Op.bytesLess a b = true → Op.bytesLess b c = true → Op.bytesLess a c = true
  | _, [], _, h, _ => by cases ‹List UInt8› <;> simp [Op.bytesLess] at h
  | _, _ :: _, [], _, h => by simp [Op.bytesLess] at h
  | [], _ :: _, _ :: _, _, _ => rfl
  | x :: a, y :: b, z :: c, h1, h2 => by
    simp only [Op.bytesLess, Bool.or_eq_true, Bool.and_eq_true, decide_eq_true_eq, beq_iff_eq] at h1 h2 ⊢
    rcases h1 with h1 | ⟨rfl, h1⟩
    · rcases h2 with h2 | ⟨rfl, h2⟩
      · exact .inl (UInt8.lt_trans h1 h2)
      · exact .inl h1
    · rcases h2 with h2 | ⟨rfl, h2⟩
      · exact .inl h2
      · exact .inr ⟨rfl, bl_trans h1 h2⟩
theorem bl_tot : ∀ {a b : List UInt8}, a ≠ b → Op.bytesLess a b = true ∨ Op.bytesLess b a = true
  | [], [], h => absurd rfl h
  | [], _ :: _, _ => .inl rfl
  | _ :: _, [], _ => .inr rfl
  | x :: a, y :: b, h => by
    simp only [Op.bytesLess, Bool.or_eq_true, Bool.and_eq_true, decide_eq_true_eq, beq_iff_eq]
    by_cases e : x = y
    · subst e
      rcases bl_tot (a := a) (b := b) (fun e => h (by rw [e])) with h | h
      · exact .inl (.inr ⟨rfl, h⟩)
      · exact .inr (.inr ⟨rfl, h⟩)
    · rcases UInt8.lt_or_lt_of_ne e with h | h
      · exact .inl (.inl h)
      · exact .inr (.inl h)
theorem bless_irr (a : BA) : bless a a = false := bl_irr _
theorem bless_trans {a b c : BA} (h1 : bless a b = true) (h2 : bless b c = true) : bless a c = true := bl_trans h1 h2
theorem ba_ext {a b : BA} (h : a.data.toList = b.data.toList) : a = b := by
  rcases a with ⟨⟨l⟩⟩; rcases b with ⟨⟨m⟩⟩; simp only at h; rw [h]
theorem bless_tot {a b : BA} (h : a ≠ b) : bless a b = true ∨ bless b a = true := bl_tot fun e => h (ba_ext e)
theorem bless_asym {a b : BA} (h : bless a b = true) : bless b a = false := by
  cases e : bless b a with
  | false => rfl
  | true => have := bless_trans h e; rw [bless_irr] at this; cases this
theorem bless_ne {a b : BA} (h : bless a b = true) : a ≠ b := by rintro rfl; rw [bless_irr] at h; cases h
abbrev Srt (l : List BA) : Prop := l.Pairwise fun a b => bless a b = true
theorem srt_unique : ∀ {l m : List BA}, Srt l → Srt m → (∀ t, t ∈ l ↔ t ∈ m) → l = m
  | [], [], _, _, _ => rfl
  | [], b :: m, _, _, h => by have := (h b).2 (by simp); simp at this
  | a :: l, [], _, _, h => by have := (h a).1 (by simp); simp at this
  | a :: l, b :: m, h1, h2, h => by
    replace h1 := List.pairwise_cons.1 h1
    replace h2 := List.pairwise_cons.1 h2
    have e : a = b := by
      by_cases e : a = b
      · exact e
      · have ha : a ∈ m := (List.mem_cons.1 ((h a).1 (by simp))).resolve_left e
        have hb : b ∈ l := (List.mem_cons.1 ((h b).2 (by simp))).resolve_left fun e2 => e e2.symm
        have p := h2.1 a ha
        have q := h1.1 b hb
        rw [bless_asym p] at q; cases q
    subst e
    rw [srt_unique h1.2 h2.2 fun t => ?_]
    constructor
    · intro ht
      have := (h t).1 (List.mem_cons_of_mem _ ht)
      rcases List.mem_cons.1 this with e | e
      · subst e; have := h1.1 t ht; rw [bless_irr] at this; cases this
      · exact e
    · intro ht
      have := (h t).2 (List.mem_cons_of_mem _ ht)
      rcases List.mem_cons.1 this with e | e
      · subst e; have := h2.1 t ht; rw [bless_irr] at this; cases this
      · exact e
/-- How often a text stands in a list. -/
def cnt (ws : List BA) (t : BA) : Nat := (ws.filter fun x => decide (x = t)).length
theorem cnt_none {ws : List BA} {t : BA} (h : t ∉ ws) : cnt ws t = 0 := by
  unfold cnt
  rw [List.length_eq_zero_iff, List.filter_eq_nil_iff]
  intro x hx e
  exact h (of_decide_eq_true e ▸ hx)
theorem cnt_snoc (ws : List BA) (a t : BA) : cnt (ws ++ [a]) t = cnt ws t + if a = t then 1 else 0 := by
  unfold cnt
  rw [List.filter_append, List.length_append]
  by_cases h : a = t <;> simp [h]
theorem cnt_le (ws : List BA) (t : BA) : cnt ws t ≤ ws.length := List.length_filter_le _ _
theorem cnt_pos {ws : List BA} {t : BA} : 0 < cnt ws t ↔ t ∈ ws := by
  constructor
  · intro h
    refine Classical.byContradiction fun hn => ?_
    rw [cnt_none hn] at h; omega
  · intro h
    exact List.length_pos_of_mem (List.mem_filter.2 ⟨h, decide_eq_true rfl⟩)
/-- The table of some words. -/
structure Tb (ws : List BA) (l : List Wd) : Prop where
  srt : Srt (l.map (·.1))
  mem : ∀ t, t ∈ l.map (·.1) ↔ t ∈ ws
  ct : ∀ x ∈ l, x.2 = (cnt ws x.1 : Int)
theorem Tb.unique {ws : List BA} {l m : List Wd} (h1 : Tb ws l) (h2 : Tb ws m) : l = m := by
  have e := srt_unique h1.srt h2.srt fun t => (h1.mem t).trans (h2.mem t).symm
  have g : ∀ {l : List Wd}, Tb ws l → l = (l.map (·.1)).map fun t => (t, (cnt ws t : Int)) := fun {l} h => by
    rw [List.map_map]
    conv => lhs; rw [← List.map_id l]
    refine List.map_congr_left fun x hx => ?_
    show x = (x.1, (cnt ws x.1 : Int))
    rw [← h.ct x hx]
  rw [g h1, g h2, e]
theorem Tb.nil : Tb [] [] := ⟨by simp, by simp, by simp⟩
/-- The count of a word in a table. -/
def cntW (l : List Wd) (t : BA) : Int := match l.find? fun x => decide (x.1 = t) with | some x => x.2 | none => 0
theorem Tb.ctW {ws : List BA} {l : List Wd} (h : Tb ws l) (t : BA) : cntW l t = (cnt ws t : Int) := by
  unfold cntW
  cases e : l.find? fun x => decide (x.1 = t) with
  | some x =>
    have h1 := List.mem_of_find?_eq_some e
    have h2 : x.1 = t := by simpa using List.find?_some e
    show x.2 = _
    rw [h.ct x h1, h2]
  | none =>
    rw [List.find?_eq_none] at e
    have : t ∉ ws := by
      rw [← h.mem]; intro hm
      rw [List.mem_map] at hm
      obtain ⟨x, hx, rfl⟩ := hm
      exact e x hx (decide_eq_true rfl)
    rw [cnt_none this]; rfl
/-- A word set into a table. -/
def setW (t : BA) (c : Int) : List Wd → Bool → List Wd
  | [], d => if d then [] else [(t, c)]
  | x :: l, d =>
    let d' := d || !bless x.1 t
    (if d then [] else if bless x.1 t then [] else [(t, c)]) ++ ((if x.1 = t then [] else [x]) ++ setW t c l d')
theorem setW_true (t : BA) (c : Int) : ∀ l, setW t c l true = l.filter fun x => decide (x.1 ≠ t)
  | [] => rfl
  | x :: l => by
    simp only [setW, Bool.true_or, if_true, List.nil_append, setW_true t c l]
    by_cases h : x.1 = t <;> simp [h]
theorem setW_spec (t : BA) (c : Int) : ∀ l : List Wd, Srt (l.map (·.1)) → Srt ((setW t c l false).map (·.1)) ∧ (∀ x, x ∈ setW t c l false ↔ x = (t, c) ∨ (x ∈ l ∧ x.1 ≠ t))
  | [], _ => by simp [setW]
  | x :: l, h => by
    rw [List.map_cons] at h
    replace h := List.pairwise_cons.1 h
    obtain ⟨h1, h2⟩ := setW_spec t c l h.2
    simp only [setW, Bool.false_or, Bool.false_eq_true, if_false]
    by_cases hb : bless x.1 t = true
    · have hne := bless_ne hb
      rw [if_pos hb, if_neg hne, hb]
      simp only [Bool.not_true, List.nil_append, List.singleton_append, List.map_cons, List.pairwise_cons, List.mem_cons]
      refine ⟨⟨fun y hy => ?_, h1⟩, fun y => ?_⟩
      · rw [List.mem_map] at hy
        obtain ⟨z, hz, rfl⟩ := hy
        rcases (h2 z).1 hz with rfl | ⟨hz, _⟩
        · exact hb
        · exact h.1 _ (List.mem_map.2 ⟨z, hz, rfl⟩)
      · rw [h2]
        constructor
        · rintro (rfl | rfl | ⟨h3, h4⟩)
          · exact .inr ⟨.inl rfl, hne⟩
          · exact .inl rfl
          · exact .inr ⟨.inr h3, h4⟩
        · rintro (rfl | ⟨rfl | h3, h4⟩)
          · exact .inr (.inl rfl)
          · exact .inl rfl
          · exact .inr (.inr ⟨h3, h4⟩)
    · rw [if_neg hb]
      have hb' : bless x.1 t = false := by simpa using hb
      simp only [hb', Bool.not_false, setW_true]
      have e : (if x.1 = t then [] else [x]) ++ l.filter (fun x => decide (x.1 ≠ t)) = (x :: l).filter fun x => decide (x.1 ≠ t) := by
        by_cases hx : x.1 = t <;> simp [hx]
      rw [e]
      refine ⟨?_, fun y => ?_⟩
      · rw [List.singleton_append, List.map_cons]
        refine List.pairwise_cons.2 ⟨?_, ?_⟩
        · intro y hy
          rw [List.mem_map] at hy
          obtain ⟨z, hz, rfl⟩ := hy
          rw [List.mem_filter] at hz
          have hzt := of_decide_eq_true hz.2
          show bless t z.1 = true
          rcases List.mem_cons.1 hz.1 with rfl | hz1
          · exact (bless_tot hzt).resolve_left hb
          · have h3 := h.1 z.1 (List.mem_map.2 ⟨z, hz1, rfl⟩)
            by_cases hxt : x.1 = t
            · rw [← hxt]; exact h3
            · exact bless_trans ((bless_tot hxt).resolve_left hb) h3
        · have hp : ((x :: l).map (·.1)).Pairwise fun a b => bless a b = true := List.pairwise_cons.2 h
          exact hp.sublist (List.Sublist.map _ List.filter_sublist)
      · rw [List.singleton_append, List.mem_cons, List.mem_filter]
        simp
theorem Tb.set {ws : List BA} {l : List Wd} (h : Tb ws l) (t : BA) : Tb (ws ++ [t]) (setW t (cntW l t + 1) l false) := by
  obtain ⟨h1, h2⟩ := setW_spec t (cntW l t + 1) l h.srt
  refine ⟨h1, fun y => ?_, fun x hx => ?_⟩
  · rw [List.mem_append, List.mem_singleton, ← h.mem]
    constructor
    · intro hy
      rw [List.mem_map] at hy
      obtain ⟨z, hz, rfl⟩ := hy
      rcases (h2 z).1 hz with rfl | ⟨hz, _⟩
      · exact .inr rfl
      · exact .inl (List.mem_map.2 ⟨z, hz, rfl⟩)
    · rintro (hy | rfl)
      · by_cases e : y = t
        · exact List.mem_map.2 ⟨_, (h2 _).2 (.inl rfl), e.symm⟩
        · rw [List.mem_map] at hy
          obtain ⟨z, hz, rfl⟩ := hy
          exact List.mem_map.2 ⟨z, (h2 z).2 (.inr ⟨hz, e⟩), rfl⟩
      · exact List.mem_map.2 ⟨_, (h2 _).2 (.inl rfl), rfl⟩
  · rw [cnt_snoc]
    rcases (h2 x).1 hx with rfl | ⟨hx, hne⟩
    · rw [h.ctW, if_pos rfl]; simp
    · rw [h.ct x hx, if_neg (fun e => hne e.symm)]; simp
end Go.Proofs.Ytchjcjocihckpaa.G
