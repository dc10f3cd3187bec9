/- Entries of a map that are changed in place, and ranges over maps. -/
import Derived.Test.YtchjcjocihckpaaGn
import Derived.Maps.RangeRun
namespace Go.Proofs.Ytchjcjocihckpaa.G
open Go Go.RowKit
section
variable {α β : Type} [DecidableEq α] {ek : α → Value} {ev : β → Value} {w w1 : World}
/-- A map, with the stamp of the entry at a key. -/
def MpE (ek : α → Value) (ev : β → Value) (w : World) (b : Nat) (es : List (α × β)) (a : α) (st : Int) : Prop :=
  ∃ ents clock j e, MpB ek ev w b es ents clock ∧ ents.toList[j]? = some e ∧ (e.born : Int) = st ∧ (∀ c, (ents.toList.map (·.val)).set j (ev c) = (mput a c es).map (fun p => ev p.2)) ∧ ∀ c, (mput a c es).map (·.1) = es.map (·.1)
theorem MpE.chg {S : Nat → Prop} {b : Nat} {es : List (α × β)} {a : α} {st : Int} (h : MpE ek ev w b es a st) (x : Chg S w w1) (hn : ¬ S b) : MpE ek ev w1 b es a st := by
  obtain ⟨ents, clock, j, e, h1, h2⟩ := h
  exact ⟨ents, clock, j, e, h1.chg x hn, h2⟩
theorem MpE.mp {b : Nat} {es : List (α × β)} {a : α} {st : Int} (h : MpE ek ev w b es a st) : Mp ek ev w (some b) es := by
  obtain ⟨ents, clock, j, e, h1, h2⟩ := h
  exact .inr ⟨b, ents, clock, rfl, h1⟩
theorem mput_same {a : α} {b : β} : ∀ {l : List (α × β)}, mget a l = some b → mput a b l = l
  | [], h => by cases h
  | p :: l, h => by
    simp only [mget] at h
    simp only [mput]
    split at h
    · rename_i e; cases h; rw [if_pos e]; subst e; rfl
    · rename_i e; rw [if_neg e, mput_same h]
theorem mput_mput {a : α} {b c : β} : ∀ {l : List (α × β)}, mput a c (mput a b l) = mput a c l
  | [] => by simp [mput]
  | p :: l => by
    simp only [mput]
    by_cases e : p.1 = a
    · simp [e, mput]
    · simp [e, mput, mput_mput (l := l)]
end
theorem born_at {ents : Array MapEntry} {j : Nat} {e : MapEntry} (hp : (ents.toList.map (·.born)).Pairwise (· < ·)) (hj : ents.toList[j]? = some e) : ents.findIdx? (fun x => (x.born : Int) == (e.born : Int)) = some j := by
  rw [Array.findIdx?_eq_some_iff_getElem]
  obtain ⟨hl, he⟩ := List.getElem?_eq_some_iff.1 hj
  refine ⟨by simpa using hl, by subst he; simp, fun i hi => ?_⟩
  have hli : i < ents.toList.length := by omega
  have h1 := List.pairwise_iff_getElem.1 hp i j (by simpa using hli) (by simpa using hl) hi
  simp only [List.getElem_map] at h1
  rw [he] at h1
  have : ents.toList[i] = ents[i]'(by simpa using hli) := by simp
  rw [this] at h1
  simp; omega
section
variable {P : Program} {n : Nat} {f : Env} {w : World} {K : Env → World → Prop}
variable {ty : TypeId} {pos : String} {af : Array Edge} {d : Nat} {gd : Option (Nat × Bool)}
variable {α β : Type} [DecidableEq α] {ek : α → Value} {ev : β → Value} {m : Option Nat} {es : List (α × β)} {t kt et sz by' : Nat} {z0 : β}
theorem run_mapEntry {b : Nat} (ht : P.underlying t = some (.map kt et)) (KE : KeyE P kt ek) (hi : TI P et (ev z0) sz by') (hm : Mp ek ev w (some b) es) (a : α) :
    ∃ (w1 : World) (st : Int), (Instr.mapEntry t (.map (some b)) (ek a)).run P w = .ok (.tuple #[ev ((mget a es).getD z0), .int .i64 st]) w1 ∧ MpE ek ev w1 b (mput a ((mget a es).getD z0) es) a st ∧ Chg (fun x => x = b) w w1 := by
  obtain ⟨i, hi, hz, _, _⟩ := hi.get
  rcases hm with ⟨h, _⟩ | ⟨b', ents, clock, h, hb⟩
  · cases h
  cases h
  have hf := KE.find a ents.toList (es.map (·.1)) w (by rw [hb.keys]; simp)
  have hg : (getObj b).run P w = .ok (.map ents clock) w := by simp [getObj, Sem.run, hb.blk]
  rcases findR_get (ek := ek) (ev := ev) (a := a) ents.toList es 0 hb.keys hb.vals with ⟨h1, h2⟩ | ⟨j, c', h1, h2, h3, _, h5, h6, h7, _⟩
  · have hzv : (zeroValue et).run P w = .ok (ev z0) w := by simp [zeroValue, typeInfo, hi, hz]
    refine ⟨_, clock, ?_, ⟨_, _, es.length, { key := ek a, val := ev z0, born := clock }, by rw [h2]; exact hb.add (c := z0) h2, ?_, rfl, ?_, ?_⟩, setObj_chg w b _⟩
    · simp only [Instr.mapEntry]
      simp [run_underlying ht, hg, KE.check, hf, h1, run_setObj hb.blk, hzv, h2, goInt]
    · have hl : ents.toList.length = es.length := by have := congrArg List.length hb.keys; simpa using this
      rw [Array.toList_push, ← hl]; exact List.getElem?_concat_length
    · intro c
      have hl : ents.toList.length = es.length := by have := congrArg List.length hb.keys; simpa using this
      rw [h2, Option.getD_none, mput_mput, mput_none h2, Array.toList_push, List.map_append, List.map_append, List.set_append_right _ _ (by rw [List.length_map, hl]; exact Nat.le_refl _)]
      simp [hb.vals, hl]
    · intro c
      rw [h2, Option.getD_none, mput_mput, mput_none h2, mput_none h2]; simp
  · rw [h2, Option.getD_some, mput_same h2]
    have hj : ents.toList[j]? = some (ents.toList[j]'h3) := List.getElem?_eq_getElem h3
    have hk : ((ents[j]?).map (·.key)).getD (ek a) = ek a := by
      have : (ents.toList.map (·.key))[j]? = some (ek a) := h7
      simp only [List.getElem?_map, Array.getElem?_toList] at this
      rw [this]; rfl
    have hks : (Instr.keyThatStays (ek a) (ek a)).run P w = .ok (ek a) w := by simp [Instr.keyThatStays, KE.same]
    have hmod : (ents.modify j fun e => { e with key := ek a }) = ents := by
      apply Array.ext'
      apply List.ext_getElem?
      intro i
      simp only [Array.toList_modify, List.getElem?_modify]
      by_cases e : j = i
      · subst e
        have : (ents.toList.map (·.key))[j]? = some (ek a) := h7
        simp only [List.getElem?_map] at this
        cases hj : ents.toList[j]? with
        | none => simp
        | some x => rw [hj] at this; simp at this; simp [← this]
      · simp [e]
    have h3' : j < ents.size := by simpa using h3
    have hkey : (ents[j]'h3').key = ek a := by
      have : (ents.toList.map (·.key))[j]? = some (ek a) := h7
      simpa [h3'] using this
    refine ⟨setObjW w b (.map ents clock), ((ents.toList[j]'h3).born : Nat), ?_, ⟨ents, clock, j, _, ⟨setObj_blk hb.blk, hb.keys, hb.vals, hb.lt, hb.inc, hb.nd⟩, hj, rfl, h5, h6⟩, setObj_chg w b _⟩
    simp only [Instr.mapEntry]
    simp [run_underlying ht, hg, KE.check, hf, h1, hkey, hks, hmod, run_setObj hb.blk, goInt, h3']
theorem run_entryStore {b : Nat} {st : Int} {a : α} (hm : MpE ek ev w b es a st) (c : β) :
    ∃ w1, (Instr.entryStore t (.map (some b)) (.int .i64 st) (ev c)).run P w = .ok () w1 ∧ Mp ek ev w1 (some b) (mput a c es) ∧ Chg (fun x => x = b) w w1 := by
  obtain ⟨ents, clock, j, e, hb, hj, rfl, h5, h6⟩ := hm
  have hg : (getObj b).run P w = .ok (.map ents clock) w := by simp [getObj, Sem.run, hb.blk]
  have hf := born_at hb.inc hj
  refine ⟨_, ?_, .inr ⟨b, _, _, rfl, hb.set (a := a) (c := c) h5 h6⟩, setObj_chg w b _⟩
  simp only [Instr.entryStore]
  simp [hg, asInt, asIntOf, hf, run_setObj hb.blk]
theorem ok_me {x y : Operand} {a : α} {b : Nat} (ht : P.underlying t = some (.map kt et)) (KE : KeyE P kt ek) (hi : TI P et (ev z0) sz by') (hx : evn n f x = .map (some b)) (hy : evn n f y = ek a) (hm : Mp ek ev w (some b) es)
    (h : ∀ w1 st, MpE ek ev w1 b (mput a ((mget a es).getD z0) es) a st → Chg (fun x => x = b) w w1 → K (upd f d (.tuple #[ev ((mget a es).getD z0), .int .i64 st])) w1) : OK P n ⟨some d, .mapEntry t x y, ty, pos, af, gd⟩ f w K := by
  obtain ⟨w1, st, hr, h1, h2⟩ := run_mapEntry ht KE hi hm a
  refine ok_run (w' := w1) ?_ (h w1 st h1 h2)
  simp only [execOp, hx, hy]
  simp [hr]
theorem ok_es {x y v : Operand} {a : α} {c : β} {b : Nat} {st : Int} (hx : evn n f x = .map (some b)) (hy : evn n f y = .int .i64 st) (hv : evn n f v = ev c) (hm : MpE ek ev w b es a st)
    (h : ∀ w1, Mp ek ev w1 (some b) (mput a c es) → Chg (fun x => x = b) w w1 → K f w1) : OK P n ⟨none, .entryStore t x y v, ty, pos, af, gd⟩ f w K := by
  obtain ⟨w1, hr, h1, h2⟩ := run_entryStore (P := P) (t := t) hm c
  refine ok_skip (w' := w1) ?_ (h w1 h1 h2)
  simp only [execOp, hx, hy, hv]
  simp [hr]
end
/-! Ranges over maps. -/
section
variable {α β : Type} {ek : α → Value} {ev : β → Value}
/-- A range over a map under way: what the map holds, what is still to come, what came last. -/
def Itr (ek : α → Value) (ev : β → Value) (w : World) (r : Nat) (m : Option Nat) (es left : List (α × β)) (last : Option (α × β)) : Prop :=
  (m = none ∧ es = [] ∧ left = [] ∧ last = none ∧ ∃ s seen c, w.heap[r]? = some (.mapIter none s seen c)) ∨
  ∃ b ents clock since seen c0, m = some b ∧ MpB ek ev w b es ents clock ∧ w.heap[r]? = some (.mapIter (some b) since seen c0) ∧ (∀ x ∈ ents.toList, x.born < since) ∧ since ≤ c0 ∧ since ≤ clock ∧
    (leftOf ents seen).toList.map (·.key) = left.map (fun p => ek p.1) ∧ (leftOf ents seen).toList.map (·.val) = left.map (fun p => ev p.2) ∧
    ∀ p, last = some p → ∃ e ∈ ents.toList, seen.back? = some e.born ∧ e.key = ek p.1 ∧ e.val = ev p.2 ∧ clock = c0
variable {w w1 : World} {r : Nat} {m : Option Nat} {es left : List (α × β)} {last : Option (α × β)}
theorem Itr.chg {S : Nat → Prop} (h : Itr ek ev w r m es left last) (x : Chg S w w1) (hr : ¬ S r) (hn : ∀ b, m = some b → ¬ S b) : Itr ek ev w1 r m es left last := by
  rcases h with ⟨h1, h2, h3, h4, s, seen, c, h5⟩ | ⟨b, ents, clock, since, seen, c0, h1, h2, h3, h4⟩
  · exact .inl ⟨h1, h2, h3, h4, s, seen, c, x.get h5 hr⟩
  · exact .inr ⟨b, ents, clock, since, seen, c0, h1, h2.chg x (hn b h1), x.get h3 hr, h4⟩
theorem Itr.ext (h : Itr ek ev w r m es left last) (x : Ext w w1) : Itr ek ev w1 r m es left last := h.chg x id fun _ _ => id
theorem Itr.mp (h : Itr ek ev w r m es left last) : Mp ek ev w m es := by
  rcases h with ⟨h1, h2, _⟩ | ⟨b, ents, clock, since, seen, c0, h1, h2, _⟩
  · exact .inl ⟨h1, h2⟩
  · exact .inr ⟨b, ents, clock, h1, h2⟩
theorem Itr.lt (h : Itr ek ev w r m es left last) : r < w.heap.size := by
  rcases h with ⟨_, _, _, _, s, seen, c, h5⟩ | ⟨b, ents, clock, since, seen, c0, h1, h2, h3, h4⟩
  · exact lt_of_blk h5
  · exact lt_of_blk h3
theorem Itr.ne (h : Itr ek ev w r m es left last) : m ≠ some r := by
  rcases h with ⟨rfl, _⟩ | ⟨b, ents, clock, since, seen, c0, rfl, h2, h3, h4⟩
  · simp
  · intro e; cases e; have := h2.blk; rw [h3] at this; cases this
theorem Itr.sub (h : Itr ek ev w r m es left last) : left.length ≤ es.length := by
  rcases h with ⟨_, rfl, rfl, _⟩ | ⟨b, ents, clock, since, seen, c0, rfl, h2, h3, h4, h5, h5', h6, h7, h8⟩
  · simp
  · have e1 := congrArg List.length h6
    have e2 := congrArg List.length h2.keys
    simp only [List.length_map] at e1 e2
    rw [← e1, ← e2]
    unfold leftOf
    rw [Array.toList_filter]; exact List.length_filter_le _ _
variable {P : Program} {n : Nat} {f : Env} {K : Env → World → Prop}
variable {ty : TypeId} {pos : String} {af : Array Edge} {d : Nat} {gd : Option (Nat × Bool)} {t kt et : Nat}
theorem ok_rg {x : Operand} (ht : P.underlying t = some (.map kt et)) (hx : evn n f x = .map m) (hm : Mp ek ev w m es)
    (h : ∀ r w1, Ext w w1 → w.heap.size ≤ r → Itr ek ev w1 r m es es none → K (upd f d (.pointer (some ⟨r, 0, none⟩))) w1) : OK P n ⟨some d, .range t x, ty, pos, af, gd⟩ f w K := by
  rcases hm with ⟨rfl, rfl⟩ | ⟨b, ents, clock, rfl, hb⟩
  · refine ok_run (w' := w.alloc (.mapIter none 0 #[] 0)) ?_ (h w.heap.size _ (Ext.alloc w _) (Nat.le_refl _) (.inl ⟨rfl, rfl, rfl, rfl, 0, #[], 0, (New.alloc w _).here⟩))
    simp only [execOp, hx, Instr.range]
    simp [run_underlying ht]
  · have hN := New.alloc w (.mapIter (some b) clock #[] clock)
    refine ok_run (w' := w.alloc (.mapIter (some b) clock #[] clock)) ?_ (h w.heap.size _ hN.ext (Nat.le_refl _) (.inr ⟨b, ents, clock, clock, #[], clock, rfl, hb.chg hN.ext id, hN.here, hb.lt, Nat.le_refl _, Nat.le_refl _, ?_, ?_, fun p hp => by cases hp⟩))
    · simp only [execOp, hx]
      simp [run_range_map w t kt et b ents clock ht hb.blk]
    · have : leftOf ents #[] = ents := by unfold leftOf; simp
      rw [this]; exact hb.keys
    · have : leftOf ents #[] = ents := by unfold leftOf; simp
      rw [this]; exact hb.vals
theorem set_blk_chg (w : World) (r : Nat) (o : Obj) : Chg (fun c => c = r) w (Go.ChangeMaps.setBlock w r o) := by
  have : Go.ChangeMaps.setBlock w r o = setObjW w r o := rfl
  rw [this]; exact setObj_chg w r o
theorem map_erase {γ δ : Type} (f : γ → δ) (l : List γ) (i : Nat) : (l.eraseIdx i).map f = (l.map f).eraseIdx i := by
  simp [List.eraseIdx_eq_take_drop_succ, List.map_take, List.map_drop]
theorem ok_nx {x : Operand} (hx : evn n f x = .pointer (some ⟨r, 0, none⟩)) (hI : Itr ek ev w r m es left last)
    (h0 : left = [] → K (upd f d (.tuple #[.bool false])) w)
    (h1 : ∀ l1 p l2 w1, left = l1 ++ p :: l2 → Itr ek ev w1 r m es (l1 ++ l2) (some p) → Chg (fun c => c = r) w w1 → K (upd f d (.tuple #[.bool true, ek p.1, ev p.2])) w1) : OK P n ⟨some d, .next x false, ty, pos, af, gd⟩ f w K := by
  rcases hI with ⟨rfl, rfl, rfl, rfl, s, seen, c, h5⟩ | ⟨b, ents, clock, since, seen, c0, rfl, hb, hr, hold, hsc, hcl, hk, hv, hl⟩
  · refine ok_run (w' := w) ?_ (h0 rfl)
    simp only [execOp, hx, Instr.next]
    simp [getObj, Sem.run, h5, Result.andThen]
  rcases run_next_at (P := P) w ty r b since c0 seen ents clock hr hb.blk hold hsc with ⟨hz, hrun⟩ | ⟨e, he, wd, hwd, hrun⟩
  · have hle : left = [] := by
      have := congrArg List.length hk
      simp only [List.length_map, Array.length_toList, hz] at this
      exact List.length_eq_zero_iff.1 this.symm
    refine ok_run (w' := w) ?_ (h0 hle)
    simp only [execOp, hx]
    simp [hrun]
  · obtain ⟨i, hi⟩ := List.mem_iff_getElem?.1 he
    have hil := (List.getElem?_eq_some_iff.1 hi).1
    have hlen : (leftOf ents seen).toList.length = left.length := by have := congrArg List.length hk; simpa using this
    have hil' : i < left.length := by omega
    have hp : left[i]? = some left[i] := List.getElem?_eq_getElem hil'
    have hpk : e.key = ek left[i].1 := by
      have := congrArg (·[i]?) hk
      simp only [List.getElem?_map, hi, hp, Option.map_some, Option.some.injEq] at this; exact this
    have hpv : e.val = ev left[i].2 := by
      have := congrArg (·[i]?) hv
      simp only [List.getElem?_map, hi, hp, Option.map_some, Option.some.injEq] at this; exact this
    have hsp : left = left.take i ++ left[i] :: left.drop (i + 1) := by rw [List.getElem_cons_drop, List.take_append_drop]
    have xd : Ext w wd := by rcases hwd with rfl | rfl; exact Chg.refl _; exact Ext.drew _
    have hch : Chg (fun c => c = r) w (Go.ChangeMaps.setBlock wd r (.mapIter (some b) since (seen.push e.born) clock)) := (xd.chg).then (set_blk_chg wd r _)
    have hne : b ≠ r := fun e => by have := hb.blk; rw [e, hr] at this; cases this
    have hlo : (leftOf ents (seen.push e.born)).toList = (leftOf ents seen).toList.eraseIdx i := by
      have hem := mem_left he
      have e1 : (leftOf ents (seen.push e.born)).toList = (leftOf ents seen).toList.filter (fun x => x.born != e.born) := by
        unfold leftOf
        rw [Array.toList_filter, Array.toList_filter, List.filter_filter]
        congr 1; funext x
        simp only [Array.contains_push, Bool.not_or, bne]
        rw [Bool.and_comm]
      rw [e1]
      have hpw : ((leftOf ents seen).toList.map (·.born)).Pairwise (· < ·) := by
        unfold leftOf
        rw [Array.toList_filter]
        exact hb.inc.sublist (List.filter_sublist.map _)
      generalize (leftOf ents seen).toList = L at hi hil hpw
      clear hlen hk hv he e1 hp hpk hpv hsp hil' h0 h1 hl hem
      induction L generalizing i with
      | nil => simp at hil
      | cons y L ih =>
        simp only [List.map_cons, List.pairwise_cons] at hpw
        cases i with
        | zero =>
          simp only [List.getElem?_cons_zero, Option.some.injEq] at hi
          subst hi
          rw [List.filter_cons_of_neg (by simp), List.eraseIdx_cons_zero, List.filter_eq_self.2]
          intro x hx
          have := hpw.1 x.born (List.mem_map.2 ⟨x, hx, rfl⟩)
          simp; omega
        | succ i =>
          simp only [List.getElem?_cons_succ] at hi
          have hyl := hpw.1 e.born (List.mem_map.2 ⟨e, List.mem_of_getElem? hi, rfl⟩)
          rw [List.filter_cons_of_pos (by simp; omega), List.eraseIdx_cons_succ, ih i hi (List.getElem?_eq_some_iff.1 hi).1 hpw.2]
    have hdrop : left.take i ++ left.drop (i + 1) = left.eraseIdx i := by rw [List.eraseIdx_eq_take_drop_succ]
    have hrw : wd.heap[r]? = some (.mapIter (some b) since seen c0) := xd.get hr
    refine ok_run (w' := Go.ChangeMaps.setBlock wd r (.mapIter (some b) since (seen.push e.born) clock)) (v := .tuple #[.bool true, ek left[i].1, ev left[i].2]) ?_ (h1 (left.take i) left[i] (left.drop (i + 1)) _ hsp (.inr ⟨b, ents, clock, since, seen.push e.born, clock, rfl, hb.chg hch hne, ?_, hold, hcl, hcl, ?_, ?_, fun p hp => ?_⟩) hch)
    · simp only [execOp, hx]
      simp [hrun, hpk, hpv]
    · exact setObj_blk hrw
    · rw [hlo, hdrop, map_erase, hk, ← map_erase]
    · rw [hlo, hdrop, map_erase, hv, ← map_erase]
    · cases hp; exact ⟨e, (mem_left he).1, by simp, hpk, hpv, rfl⟩
theorem r_en {x : Operand} {p : α × β} (hx : evn n f x = .pointer (some ⟨r, 0, none⟩)) (hI : Itr ek ev w r m es left (some p)) : RV P n f w ⟨some d, .entry x, ty, pos, af, gd⟩ (.tuple #[ek p.1, ev p.2]) := by
  rcases hI with ⟨_, _, _, h, _⟩ | ⟨b, ents, clock, since, seen, c0, rfl, hb, hr, hold, hsc, hcl, hk, hv, hl⟩
  · cases h
  obtain ⟨e, he, hs, hk, hv, rfl⟩ := hl p rfl
  have hnd : (ents.toList.map (·.born)).Nodup := hb.inc.imp fun h => Nat.ne_of_lt h
  have hf : ents.find? (·.born == e.born) = some e := by rw [← Array.find?_toList]; exact find_born e ents.toList hnd he
  unfold RV
  simp only [execOp, hx, Instr.entry]
  simp [getObj, Sem.run, hr, hb.blk, hs, hf, hk, hv]
variable [DecidableEq α]
/-- What a deletion leaves of a range under way. -/
def Dl (ek : α → Value) (ev : β → Value) (w w1 : World) (m : Option Nat) (a : α) : Prop :=
  ∀ r es left last, Itr ek ev w r m es left last → Itr ek ev w1 r m (mdel a es) (mdel a left) none
end
end Go.Proofs.Ytchjcjocihckpaa.G
