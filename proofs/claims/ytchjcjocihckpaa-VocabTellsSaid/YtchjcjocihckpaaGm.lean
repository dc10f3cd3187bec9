/- Maps, as lists of entries. -/
import Derived.Test.YtchjcjocihckpaaGz
namespace Go.Proofs.Ytchjcjocihckpaa.G
open Go Go.RowKit
/-! Maps. -/
theorem ba_beq (a b : ByteArray) : (a == b) = decide (a = b) := by
  have h : (a == b) = (a.data == b.data) := rfl
  rw [h, beq_dec]
  congr 1
  exact propext ⟨fun h => by cases a; cases b; simpa using h, fun h => by rw [h]⟩
/-- How the keys of a map are found: 'ek' makes a key's value. -/
def findR {α : Type} [DecidableEq α] (a : α) : List MapEntry → List α → Nat → Option (Nat × Value)
  | e :: l, x :: xs, i => if x = a then some (i, e.val) else findR a l xs (i + 1)
  | _, _, _ => none
structure KeyE {α : Type} [DecidableEq α] (P : Program) (kt : TypeId) (ek : α → Value) : Prop where
  find : ∀ (a : α) (l : List MapEntry) (xs : List α) (w : World), l.map (·.key) = xs.map ek → (Instr.findKey kt (ek a) l).run P w = .ok (findR a l xs 0) w
  check : ∀ (b : Bool) (a : α) (w : World), (Instr.checkKey b 10000 kt (ek a)).run P w = .ok () w
  same : ∀ a : α, Instr.sameBits 10000 (ek a) (ek a) = true
section
variable {P : Program} {w : World}
theorem key_str {kt : TypeId} (h : P.underlying kt = some .string) : KeyE P kt (fun s : ByteArray => .string s) where
  find a l xs w hl := by
    have h1 : ∀ (l : List MapEntry) (xs : List ByteArray) (i : Nat), l.map (·.key) = xs.map (fun s : ByteArray => Value.string s) → Instr.findNow .string (.string a) l i = some (findR a l xs i) := by
      intro l
      induction l with
      | nil => intro xs i hl; cases xs with | nil => rfl | cons x xs => simp at hl
      | cons e l ih =>
        intro xs i hl
        cases xs with
        | nil => simp at hl
        | cons x xs =>
          simp only [List.map_cons, List.cons.injEq] at hl
          simp only [Instr.findNow, hl.1, Instr.sameNow, findR]
          by_cases hx : x = a
          · subst hx; simp [ba_beq]
          · have : (a == x) = false := by rw [ba_beq]; exact decide_eq_false (fun h : a = x => hx h.symm)
            rw [this, if_neg hx]; exact ih xs (i + 1) hl.2
    simp [Instr.findKey, run_underlying h, h1 l xs 0 hl]
  check b a w := by unfold Instr.checkKey; simp [run_underlying h]
  same a := by simp [Instr.sameBits, ba_beq]
theorem key_int {kt : TypeId} {k : IntKind} (h : P.underlying kt = some (.int k)) : KeyE P kt (fun s : Int => .int k s) where
  find a l xs w hl := by
    have h1 : ∀ (l : List MapEntry) (xs : List Int) (i : Nat), l.map (·.key) = xs.map (fun s : Int => Value.int k s) → Instr.findNow (.int k) (.int k a) l i = some (findR a l xs i) := by
      intro l
      induction l with
      | nil => intro xs i hl; cases xs with | nil => rfl | cons x xs => simp at hl
      | cons e l ih =>
        intro xs i hl
        cases xs with
        | nil => simp at hl
        | cons x xs =>
          simp only [List.map_cons, List.cons.injEq] at hl
          simp only [Instr.findNow, hl.1, Instr.sameNow, findR]
          by_cases hx : x = a
          · subst hx; simp
          · have : (a == x) = false := by rw [beq_dec]; exact decide_eq_false (fun h : a = x => hx h.symm)
            simp only [if_true, this, if_neg hx]; exact ih xs (i + 1) hl.2
    simp [Instr.findKey, run_underlying h, h1 l xs 0 hl]
  check b a w := by unfold Instr.checkKey; simp [run_underlying h]
  same a := by simp [Instr.sameBits]
@[reducible] def strV (s : ByteArray) : Value := .string s
@[reducible] def intV (i : Int) : Value := .int .i64 i
@[reducible] def ptrV (p : Option Addr) : Value := .pointer p
/-- A pair of numbers as a struct. -/
@[reducible] def pairV (p : Int × Int) : Value := .agg #[.int .i64 p.1, .int .i64 p.2]
theorem key_pair {kt ti : TypeId} {fa fb : Field} (h : P.underlying kt = some (.struct #[fa, fb])) (ha : fa.type = ti) (hb : fb.type = ti) (oa : fa.offset = 0) (ob : fb.offset = 1) (na : (fa.name == "_") = false) (nb : (fb.name == "_") = false) (hi : P.underlying ti = some (.int .i64)) (hs : P.stoodInHeld kt = false) : KeyE P kt pairV := by
  have na' : fa.name ≠ "_" := by simpa using na
  have nb' : fb.name ≠ "_" := by simpa using nb
  have heq1 : ∀ (m : Nat) (a b : Int) (w : World), (Op.equalIn (m + 1) ti (.int .i64 a) (.int .i64 b)).run P w = .ok (a == b) w := fun m a b w => by unfold Op.equalIn; simp [run_underlying hi]
  have heq : ∀ (a b : Int × Int) (w : World), (Op.equal kt (pairV a) (pairV b)).run P w = .ok (decide (a = b)) w := by
    intro a b w
    simp only [Op.equal, Op.maxDepth, pairV]
    unfold Op.equalIn
    simp [run_underlying h, hs, na', nb', ha, hb, oa, ob, part, run_isAgg hi, aggT, heq1 9998, Prod.ext_iff]
    by_cases h1 : a.1 = b.1 <;> by_cases h2 : a.2 = b.2 <;> simp [h1, h2]
  refine ⟨fun a l xs w hl => ?_, fun b a w => ?_, fun a => ?_⟩
  · have h1 : ∀ (l : List MapEntry) (xs : List (Int × Int)) (i : Nat), l.map (·.key) = xs.map pairV → (Instr.findAsking kt (pairV a) l i).run P w = .ok (findR a l xs i) w := by
      intro l
      induction l with
      | nil => intro xs i hl; cases xs with | nil => rfl | cons x xs => simp at hl
      | cons e l ih =>
        intro xs i hl
        cases xs with
        | nil => simp at hl
        | cons x xs =>
          simp only [List.map_cons, List.cons.injEq] at hl
          simp only [Instr.findAsking, hl.1, findR, Sem.run_bind, heq, Result.andThen_ok]
          by_cases hx : x = a
          · subst hx; simp
          · have : ¬ a = x := fun h => hx h.symm
            simp only [this, decide_false, Bool.false_eq_true, if_false, if_neg hx]; exact ih xs (i + 1) hl.2
    cases l with
    | nil => cases xs with
      | nil => simp [Instr.findKey, run_underlying h, Instr.findNow, findR]
      | cons x xs => simp at hl
    | cons e l =>
      have hn : Instr.findNow (.struct #[fa, fb]) (pairV a) (e :: l) 0 = none := by simp [Instr.findNow, Instr.sameNow]
      simp [Instr.findKey, run_underlying h, hn, h1 (e :: l) xs 0 hl]
  · have hci : ∀ (m : Nat) (b : Bool) (x : Int) (w : World), (Instr.checkKey b (m + 1) ti (.int .i64 x)).run P w = .ok () w := fun m b x w => by unfold Instr.checkKey; simp [run_underlying hi]
    simp only [pairV]
    unfold Instr.checkKey
    simp [run_underlying h, na', nb', ha, hb, oa, ob, part, run_isAgg hi, aggT, hci 9998]
  · simp [Instr.sameBits]
end
/-! What a map holds: entries in the order in which they came. -/
section
variable {α β : Type} [DecidableEq α]
def mget (a : α) : List (α × β) → Option β
  | [] => none
  | p :: l => if p.1 = a then some p.2 else mget a l
def mput (a : α) (b : β) : List (α × β) → List (α × β)
  | [] => [(a, b)]
  | p :: l => if p.1 = a then (a, b) :: l else p :: mput a b l
def mdel (a : α) : List (α × β) → List (α × β)
  | [] => []
  | p :: l => if p.1 = a then l else p :: mdel a l
theorem mget_none {a : α} : ∀ {l : List (α × β)}, mget a l = none ↔ a ∉ l.map (·.1)
  | [] => by simp [mget]
  | p :: l => by
    simp only [mget]
    by_cases h : p.1 = a
    · simp [h]
    · simp only [if_neg h, mget_none (l := l), List.map_cons, List.mem_cons, not_or]
      exact ⟨fun h2 => ⟨fun e => h e.symm, h2⟩, fun h2 => h2.2⟩
theorem mget_some {a : α} {b : β} : ∀ {l : List (α × β)}, mget a l = some b → (a, b) ∈ l
  | [], h => by simp [mget] at h
  | p :: l, h => by
    simp only [mget] at h
    by_cases e : p.1 = a
    · rw [if_pos e] at h; cases h; subst e; exact List.mem_cons_self
    · rw [if_neg e] at h; exact List.mem_cons_of_mem _ (mget_some h)
theorem mget_mem {a : α} {b : β} : ∀ {l : List (α × β)}, (l.map (·.1)).Nodup → (a, b) ∈ l → mget a l = some b
  | [], _, h => by cases h
  | p :: l, hn, h => by
    simp only [List.map_cons, List.nodup_cons] at hn
    simp only [mget]
    rcases List.mem_cons.1 h with h | h
    · subst h; simp
    · have : p.1 ≠ a := fun e => hn.1 (e ▸ List.mem_map.2 ⟨_, h, rfl⟩)
      rw [if_neg this]; exact mget_mem hn.2 h
theorem mput_keys (a : α) (b : β) : ∀ (l : List (α × β)), (mput a b l).map (·.1) = if a ∈ l.map (·.1) then l.map (·.1) else l.map (·.1) ++ [a]
  | [] => by simp [mput]
  | p :: l => by
    simp only [mput]
    by_cases h : p.1 = a
    · simp [h]
    · have h' : a ≠ p.1 := fun e => h e.symm
      simp only [if_neg h, List.map_cons, mput_keys a b l, List.mem_cons, h', false_or]
      split <;> simp
theorem mput_nodup {a : α} {b : β} {l : List (α × β)} (h : (l.map (·.1)).Nodup) : ((mput a b l).map (·.1)).Nodup := by
  rw [mput_keys]
  split
  · exact h
  · rename_i hn; rw [List.nodup_append]; exact ⟨h, by simp, fun x hx y hy => by simp at hy; subst hy; exact fun e => hn (e ▸ hx)⟩
theorem mget_mput (a c : α) (b : β) : ∀ (l : List (α × β)), mget c (mput a b l) = if a = c then some b else mget c l
  | [] => by simp [mput, mget]
  | p :: l => by
    simp only [mput]
    by_cases h : p.1 = a
    · subst h
      simp only [if_pos, mget]
      split <;> rfl
    · simp only [if_neg h, mget, mget_mput a c b l]
      by_cases h2 : p.1 = c
      · have : a ≠ c := fun e => h (h2.trans e.symm)
        simp [h2, this]
      · simp [h2]
theorem mdel_sub {a : α} : ∀ {l : List (α × β)} {p}, p ∈ mdel a l → p ∈ l
  | [], _, h => h
  | q :: l, p, h => by
    simp only [mdel] at h
    split at h
    · exact List.mem_cons_of_mem _ h
    · rcases List.mem_cons.1 h with h | h
      · exact h ▸ List.mem_cons_self
      · exact List.mem_cons_of_mem _ (mdel_sub h)
theorem mdel_nodup {a : α} : ∀ {l : List (α × β)}, (l.map (·.1)).Nodup → ((mdel a l).map (·.1)).Nodup
  | [], h => h
  | q :: l, h => by
    simp only [List.map_cons, List.nodup_cons] at h
    simp only [mdel]
    split
    · exact h.2
    · simp only [List.map_cons, List.nodup_cons]
      exact ⟨fun hm => h.1 (by obtain ⟨x, hx, e⟩ := List.mem_map.1 hm; exact List.mem_map.2 ⟨x, mdel_sub hx, e⟩), mdel_nodup h.2⟩
theorem mget_mdel {a c : α} : ∀ {l : List (α × β)}, (l.map (·.1)).Nodup → mget c (mdel a l) = if a = c then none else mget c l
  | [], _ => by simp [mdel, mget]
  | q :: l, h => by
    simp only [List.map_cons, List.nodup_cons] at h
    simp only [mdel]
    by_cases e : q.1 = a
    · subst e
      simp only [if_pos, mget]
      by_cases e2 : q.1 = c
      · subst e2; simp only [if_pos]; exact mget_none.2 h.1
      · simp [e2]
    · simp only [if_neg e, mget, mget_mdel h.2]
      by_cases e2 : q.1 = c
      · have : a ≠ c := fun h => e (e2.trans h.symm)
        simp [e2, this]
      · simp [e2]
theorem mdel_none {a : α} : ∀ {l : List (α × β)}, mget a l = none → mdel a l = l
  | [], _ => rfl
  | q :: l, h => by
    simp only [mget] at h
    split at h
    · cases h
    · rename_i e; simp only [mdel, if_neg e, mdel_none h]
end
/-- A map's block: its entries, each stamped by when it came. -/
structure MpB {α β : Type} (ek : α → Value) (ev : β → Value) (w : World) (b : Nat) (es : List (α × β)) (ents : Array MapEntry) (clock : Nat) : Prop where
  blk : w.heap[b]? = some (.map ents clock)
  keys : ents.toList.map (·.key) = es.map (fun p => ek p.1)
  vals : ents.toList.map (·.val) = es.map (fun p => ev p.2)
  lt : ∀ e ∈ ents.toList, e.born < clock
  inc : (ents.toList.map (·.born)).Pairwise (· < ·)
  nd : (es.map (·.1)).Nodup
def Mp {α β : Type} (ek : α → Value) (ev : β → Value) (w : World) (m : Option Nat) (es : List (α × β)) : Prop :=
  (m = none ∧ es = []) ∨ ∃ b ents clock, m = some b ∧ MpB ek ev w b es ents clock
section
variable {α β : Type} {ek : α → Value} {ev : β → Value} {w w1 : World} {m : Option Nat} {es : List (α × β)}
theorem MpB.chg {S : Nat → Prop} {b : Nat} {ents : Array MapEntry} {clock : Nat} (h : MpB ek ev w b es ents clock) (x : Chg S w w1) (hn : ¬ S b) : MpB ek ev w1 b es ents clock :=
  ⟨x.get h.blk hn, h.keys, h.vals, h.lt, h.inc, h.nd⟩
theorem Mp.chg {S : Nat → Prop} (h : Mp ek ev w m es) (x : Chg S w w1) (hn : ∀ b, m = some b → ¬ S b) : Mp ek ev w1 m es := by
  rcases h with h | ⟨b, ents, clock, rfl, h⟩
  · exact .inl h
  · exact .inr ⟨b, ents, clock, rfl, h.chg x (hn b rfl)⟩
theorem Mp.ext (x : Ext w w1) (h : Mp ek ev w m es) : Mp ek ev w1 m es := h.chg x fun _ _ h => h
theorem Mp.nd (h : Mp ek ev w m es) : (es.map (·.1)).Nodup := by
  rcases h with ⟨_, rfl⟩ | ⟨b, ents, clock, rfl, h⟩
  · simp
  · exact h.nd
theorem Mp.lt {b : Nat} (h : Mp ek ev w (some b) es) : b < w.heap.size := by
  rcases h with ⟨h, _⟩ | ⟨b', ents, clock, h, hb⟩
  · cases h
  · cases h; exact lt_of_blk hb.blk
theorem Mp.nil : Mp ek ev w none [] := .inl ⟨rfl, rfl⟩
theorem Mp.new {b : Nat} (h : New w b (.map #[] 0) w1) : Mp ek ev w1 (some b) [] := .inr ⟨b, #[], 0, rfl, h.here, rfl, rfl, by simp, by simp, by simp⟩
variable [DecidableEq α]
theorem findR_get {a : α} : ∀ (l : List MapEntry) (es : List (α × β)) (i : Nat), l.map (·.key) = es.map (fun p => ek p.1) → l.map (·.val) = es.map (fun p => ev p.2) →
    (findR a l (es.map (·.1)) i = none ∧ mget a es = none) ∨ ∃ j b, findR a l (es.map (·.1)) i = some (i + j, ev b) ∧ mget a es = some b ∧ j < l.length ∧ (∀ v, (l.modify j fun e => { e with val := v }).map (·.val) = ((mput a b es).map fun p => ev p.2).set j v) ∧ (∀ c, (l.map (·.val)).set j (ev c) = (mput a c es).map (fun p => ev p.2)) ∧ (∀ c, (mput a c es).map (·.1) = es.map (·.1)) ∧ (l.map (·.key))[j]? = some (ek a) ∧
      (l.eraseIdx j).map (·.key) = (mdel a es).map (fun p => ek p.1) ∧ (l.eraseIdx j).map (·.val) = (mdel a es).map (fun p => ev p.2)
  | [], [], i, _, _ => .inl ⟨rfl, rfl⟩
  | [], p :: es, i, h, _ => by simp at h
  | e :: l, [], i, h, _ => by simp at h
  | e :: l, p :: es, i, hk, hv => by
    simp only [List.map_cons, List.cons.injEq] at hk hv
    simp only [List.map_cons, findR, mget]
    by_cases h : p.1 = a
    · subst h
      refine .inr ⟨0, p.2, by simp [hv.1], by simp, by simp, ?_, ?_, ?_, ?_, ?_, ?_⟩
      · intro v; simp [mput, hv.2]
      · intro c; simp [mput, hv.2]
      · intro c; simp [mput]
      · simp [hk.1]
      · simp [mdel, hk.2]
      · simp [mdel, hv.2]
    · rw [if_neg h, if_neg h]
      rcases findR_get (a := a) l es (i + 1) hk.2 hv.2 with ⟨h1, h2⟩ | ⟨j, b, h1, h2, h3, h4, h5, h6, h7, h8, h9⟩
      · exact .inl ⟨h1, h2⟩
      · refine .inr ⟨j + 1, b, by rw [h1]; simp; omega, h2, by simpa using h3, ?_, ?_, ?_, ?_, ?_, ?_⟩
        · intro v; simp [mput, h, h4 v, hv.1]
        · intro c; simp [mput, h, h5 c, hv.1]
        · intro c; simp [mput, h, h6 c]
        · simpa using h7
        · simp [mdel, h, h8, hk.1]
        · simp [mdel, h, h9, hv.1]
end
/-! The operations on maps. -/
section
variable {P : Program} {n : Nat} {f : Env} {w : World} {K : Env → World → Prop}
variable {ty : TypeId} {pos : String} {af : Array Edge} {d : Nat} {gd : Option (Nat × Bool)}
variable {α β : Type} [DecidableEq α] {ek : α → Value} {ev : β → Value} {m : Option Nat} {es : List (α × β)} {t kt et sz by' : Nat} {z0 : β}
theorem run_lookup (ht : P.underlying t = some (.map kt et)) (KE : KeyE P kt ek) (hi : TI P et (ev z0) sz by') (hm : Mp ek ev w m es) (a : α) (ok : Bool) :
    (Instr.lookup t (.map m) (ek a) ok).run P w = .ok (if ok then .tuple #[ev ((mget a es).getD z0), .bool (mget a es).isSome] else ev ((mget a es).getD z0)) w := by
  obtain ⟨i, hi, hz, _, _⟩ := hi.get
  rcases hm with ⟨rfl, rfl⟩ | ⟨b, ents, clock, rfl, h⟩
  · have := KE.find a [] [] w rfl
    simp only [findR] at this
    cases ok <;> simp [Instr.lookup, run_underlying ht, KE.check, this, zeroValue, typeInfo, hi, hz, mget]
  · have hf := KE.find a ents.toList (es.map (·.1)) w (by rw [h.keys]; simp)
    have hg : (getObj b).run P w = .ok (.map ents clock) w := by simp [getObj, Sem.run, h.blk]
    simp only [Instr.lookup]
    simp [run_underlying ht, hg, KE.check, hf]
    rcases findR_get (ek := ek) (ev := ev) (a := a) ents.toList es 0 h.keys h.vals with ⟨h1, h2⟩ | ⟨j, c, h1, h2, _⟩
    · rw [h1, h2]; cases ok <;> simp [zeroValue, typeInfo, hi, hz]
    · rw [h1, h2]; cases ok <;> simp
theorem r_lk {x y : Operand} {a : α} (ht : P.underlying t = some (.map kt et)) (KE : KeyE P kt ek) (hi : TI P et (ev z0) sz by') (hx : evn n f x = .map m) (hy : evn n f y = ek a) (hm : Mp ek ev w m es) :
    RV P n f w ⟨some d, .lookup t x y false, ty, pos, af, gd⟩ (ev ((mget a es).getD z0)) := by
  unfold RV
  simp only [execOp, hx, hy]
  simp [run_lookup ht KE hi hm a false]
theorem r_lko {x y : Operand} {a : α} (ht : P.underlying t = some (.map kt et)) (KE : KeyE P kt ek) (hi : TI P et (ev z0) sz by') (hx : evn n f x = .map m) (hy : evn n f y = ek a) (hm : Mp ek ev w m es) :
    RV P n f w ⟨some d, .lookup t x y true, ty, pos, af, gd⟩ (.tuple #[ev ((mget a es).getD z0), .bool (mget a es).isSome]) := by
  unfold RV
  simp only [execOp, hx, hy]
  simp [run_lookup ht KE hi hm a true]
set_option linter.unusedSectionVars false in
theorem r_len_m {x : Operand} {ats : Array TypeId} (hx : evn n f x = .map m) (ha : ats[0]? = some t) (ht : P.underlying t = some (.map kt et)) (hm : Mp ek ev w m es) :
    RV P n f w ⟨some d, .call { callee := .builtin .len, args := #[x], argTypes := ats }, ty, pos, af, gd⟩ (.int .i64 (es.length : Nat)) := by
  unfold RV
  rcases hm with ⟨rfl, rfl⟩ | ⟨b, ents, clock, rfl, h⟩
  · simp [execOp, hx, resolve, invoke, builtin, Builtin.len_, ha, run_underlying ht, goInt]
  · have hg : (getObj b).run P w = .ok (.map ents clock) w := by simp [getObj, Sem.run, h.blk]
    have hl : ents.size = es.length := by have := congrArg List.length h.keys; simpa using this
    simp [execOp, hx, resolve, invoke, builtin, Builtin.len_, ha, run_underlying ht, goInt, hg, hl]
def setObjW (w : World) (b : Nat) (o : Obj) : World := { w with heap := w.heap.setIfInBounds b o }
theorem setObj_chg (w : World) (b : Nat) (o : Obj) : Chg (fun c => c = b) w (setObjW w b o) :=
  ⟨rfl, rfl, rfl, by simp [setObjW], fun c _ hn => by simp only [setObjW]; rw [Array.getElem?_setIfInBounds_ne (fun e => hn e.symm)]⟩
theorem setObj_blk {b : Nat} {o o' : Obj} (h : w.heap[b]? = some o') : (setObjW w b o).heap[b]? = some o := by
  simp only [setObjW]; rw [Array.getElem?_setIfInBounds_self_of_lt (lt_of_blk h)]
theorem run_setObj {b : Nat} {o : Obj} {ents : Array MapEntry} {clock : Nat} (h : w.heap[b]? = some (.map ents clock)) : (setObj b o).run P w = .ok () (setObjW w b o) := by
  simp [setObj, Sem.run, h, setObjW]
theorem modify_val {ents : Array MapEntry} {j : Nat} {v : Value} : (ents.modify j fun e => { e with val := v }).toList.map (·.key) = ents.toList.map (·.key) ∧ (ents.modify j fun e => { e with val := v }).toList.map (·.born) = ents.toList.map (·.born) ∧ (ents.modify j fun e => { e with val := v }).toList.map (·.val) = (ents.toList.map (·.val)).set j v := by
  refine ⟨?_, ?_, ?_⟩ <;>
  · apply List.ext_getElem?
    intro i
    simp only [Array.toList_modify, List.getElem?_map, List.getElem?_modify, List.getElem?_set, List.length_map]
    by_cases h : j = i
    · subst h
      cases hj : ents.toList[j]? with
      | none => simp_all
      | some x =>
        have hlt : j < ents.size := by simpa using (List.getElem?_eq_some_iff.1 hj).1
        simp_all
    · cases hj : ents.toList[i]? <;> simp_all
/-- A key is there: its value is another. -/
theorem MpB.set {b : Nat} {ents : Array MapEntry} {clock j : Nat} {a : α} {c : β} (h : MpB ek ev w b es ents clock) (h5 : ∀ c, (ents.toList.map (·.val)).set j (ev c) = (mput a c es).map (fun p => ev p.2)) (h6 : ∀ c, (mput a c es).map (·.1) = es.map (·.1)) :
    MpB ek ev (setObjW w b (.map (ents.modify j fun e => { e with val := ev c }) clock)) b (mput a c es) (ents.modify j fun e => { e with val := ev c }) clock := by
  obtain ⟨m1, m2, m3⟩ := modify_val (ents := ents) (j := j) (v := ev c)
  refine ⟨setObj_blk h.blk, ?_, ?_, ?_, ?_, mput_nodup h.nd⟩
  · rw [m1, h.keys]
    have := h6 c
    have e : ∀ l : List (α × β), l.map (fun p => ek p.1) = (l.map (·.1)).map ek := fun l => by simp
    rw [e, e, this]
  · rw [m3, h5]
  · intro e he
    have hb : e.born ∈ ents.toList.map (·.born) := by rw [← m2]; exact List.mem_map.2 ⟨e, he, rfl⟩
    obtain ⟨e', h1, h2⟩ := List.mem_map.1 hb
    rw [← h2]; exact h.lt e' h1
  · rw [m2]; exact h.inc
theorem mput_none {a : α} {c : β} : ∀ {l : List (α × β)}, mget a l = none → mput a c l = l ++ [(a, c)]
  | [], _ => rfl
  | p :: l, h => by
    simp only [mget] at h
    split at h
    · cases h
    · rename_i e; simp [mput, e, mput_none h]
theorem MpB.add {b : Nat} {ents : Array MapEntry} {clock : Nat} {a : α} {c : β} (h : MpB ek ev w b es ents clock) (hn : mget a es = none) :
    MpB ek ev (setObjW w b (.map (ents.push { key := ek a, val := ev c, born := clock }) (clock + 1))) b (mput a c es) (ents.push { key := ek a, val := ev c, born := clock }) (clock + 1) := by
  refine ⟨setObj_blk h.blk, by simp [mput_none hn, h.keys], by simp [mput_none hn, h.vals], ?_, ?_, mput_nodup h.nd⟩
  · intro e he
    simp only [Array.toList_push, List.mem_append, List.mem_singleton] at he
    rcases he with he | rfl
    · exact Nat.lt_succ_of_lt (h.lt e he)
    · exact Nat.lt_succ_self _
  · simp only [Array.toList_push, List.map_append, List.map_cons, List.map_nil]
    rw [List.pairwise_append]
    refine ⟨h.inc, by simp, fun x hx y hy => ?_⟩
    simp at hy; subst hy
    obtain ⟨e, he, rfl⟩ := List.mem_map.1 hx
    exact h.lt e he
theorem run_mapUpdate {b : Nat} (ht : P.underlying t = some (.map kt et)) (KE : KeyE P kt ek) (hm : Mp ek ev w (some b) es) (a : α) (c : β) :
    ∃ w1, (Instr.mapUpdate t (.map (some b)) (ek a) (ev c)).run P w = .ok () w1 ∧ Mp ek ev w1 (some b) (mput a c es) ∧ Chg (fun x => x = b) w w1 := by
  rcases hm with ⟨h, _⟩ | ⟨b', ents, clock, h, hb⟩
  · cases h
  cases h
  have hf := KE.find a ents.toList (es.map (·.1)) w (by rw [hb.keys]; simp)
  have hg : (getObj b).run P w = .ok (.map ents clock) w := by simp [getObj, Sem.run, hb.blk]
  rcases findR_get (ek := ek) (ev := ev) (a := a) ents.toList es 0 hb.keys hb.vals with ⟨h1, h2⟩ | ⟨j, c', h1, h2, h3, _, h5, h6, h7, _⟩
  · refine ⟨_, ?_, .inr ⟨b, _, _, rfl, hb.add (c := c) h2⟩, setObj_chg w b _⟩
    simp only [Instr.mapUpdate]
    simp [run_underlying ht, hg, KE.check, hf, h1, run_setObj hb.blk]
  · refine ⟨_, ?_, .inr ⟨b, _, _, rfl, hb.set (a := a) (c := c) h5 h6⟩, setObj_chg w b _⟩
    have hk : ((ents[j]?).map (·.key)).getD (ek a) = ek a := by
      have : (ents.toList.map (·.key))[j]? = some (ek a) := h7
      simp only [List.getElem?_map, Array.getElem?_toList] at this
      rw [this]; rfl
    have hks : (Instr.keyThatStays (ek a) (ek a)).run P w = .ok (ek a) w := by simp [Instr.keyThatStays, KE.same]
    have hmod : (ents.modify j fun e => { e with key := ek a, val := ev c }) = (ents.modify j fun e => { e with val := ev c }) := by
      apply Array.ext'
      apply List.ext_getElem?
      intro i
      simp only [Array.toList_modify, List.getElem?_modify]
      by_cases e : j = i
      · subst e
        have : (ents.toList.map (·.key))[j]? = some (ek a) := h7
        simp only [List.getElem?_map] at this
        cases hj : ents.toList[j]? with
        | none => simp
        | some x => rw [hj] at this; simp at this; simp [this]
      · simp [e]
    simp only [Instr.mapUpdate]
    simp [run_underlying ht, hg, KE.check, hf, h1, hk, hks, hmod, run_setObj hb.blk]
theorem ok_mu {x y v : Operand} {a : α} {c : β} {b : Nat} (ht : P.underlying t = some (.map kt et)) (KE : KeyE P kt ek) (hx : evn n f x = .map (some b)) (hy : evn n f y = ek a) (hv : evn n f v = ev c) (hm : Mp ek ev w (some b) es)
    (h : ∀ w1, Mp ek ev w1 (some b) (mput a c es) → Chg (fun x => x = b) w w1 → K f w1) : OK P n ⟨none, .mapUpdate t x y v, ty, pos, af, gd⟩ f w K := by
  obtain ⟨w1, hr, h1, h2⟩ := run_mapUpdate ht KE hm a c
  refine ok_skip (w' := w1) ?_ (h w1 h1 h2)
  simp only [execOp, hx, hy, hv]
  simp [hr]
theorem ok_del {x y : Operand} {a : α} {ats : Array TypeId} (ha : ats[0]? = some t) (ht : P.underlying t = some (.map kt et)) (KE : KeyE P kt ek) (hx : evn n f x = .map m) (hy : evn n f y = ek a) (hm : Mp ek ev w m es)
    {dd : Option Nat} (h : ∀ w1, Mp ek ev w1 m (mdel a es) → Chg (fun x => m = some x) w w1 → K (updo f dd (.tuple #[])) w1) : OK P n ⟨dd, .call { callee := .builtin .delete, args := #[x, y], argTypes := ats }, ty, pos, af, gd⟩ f w K := by
  have key : ∃ w1, (Builtin.delete_ ats ty #[.map m, ek a]).run P w = .ok (.tuple #[]) w1 ∧ Mp ek ev w1 m (mdel a es) ∧ Chg (fun x => m = some x) w w1 := by
    rcases hm with ⟨rfl, rfl⟩ | ⟨b, ents, clock, rfl, hb⟩
    · exact ⟨w, by simp [Builtin.delete_, ha, run_underlying ht, KE.check], .inl ⟨rfl, rfl⟩, Chg.refl w⟩
    have hf := KE.find a ents.toList (es.map (·.1)) w (by rw [hb.keys]; simp)
    have hg : (getObj b).run P w = .ok (.map ents clock) w := by simp [getObj, Sem.run, hb.blk]
    have hch : ∀ o, Chg (fun x => some b = some x) w (setObjW w b o) := fun o => (setObj_chg w b o).mono fun x _ hx => by rw [hx]
    rcases findR_get (ek := ek) (ev := ev) (a := a) ents.toList es 0 hb.keys hb.vals with ⟨h1, h2⟩ | ⟨j, c', h1, h2, h3, _, _, _, _, h8, h9⟩
    · refine ⟨setObjW w b (.map ents clock), ?_, .inr ⟨b, ents, clock, rfl, ?_⟩, hch _⟩
      · simp only [Builtin.delete_]
        simp [ha, run_underlying ht, hg, KE.check, hf, h1, run_setObj hb.blk]
      · rw [mdel_none h2]; exact ⟨setObj_blk hb.blk, hb.keys, hb.vals, hb.lt, hb.inc, hb.nd⟩
    · have he : (ents.eraseIdxIfInBounds j).toList = ents.toList.eraseIdx j := by simp
      refine ⟨setObjW w b (.map (ents.eraseIdxIfInBounds j) clock), ?_, .inr ⟨b, _, clock, rfl, setObj_blk hb.blk, by rw [he]; exact h8, by rw [he]; exact h9, ?_, ?_, mdel_nodup hb.nd⟩, hch _⟩
      · simp only [Builtin.delete_]
        simp [ha, run_underlying ht, hg, KE.check, hf, h1, run_setObj hb.blk]
      · intro e h; rw [he] at h; exact hb.lt e (List.mem_of_mem_eraseIdx h)
      · rw [he]; exact hb.inc.sublist ((List.eraseIdx_sublist _ _).map _)
  obtain ⟨w1, hr, h1, h2⟩ := key
  refine ok_run (v := .tuple #[]) (w' := w1) ?_ (h w1 h1 h2)
  simp only [execOp, resolve, invoke, builtin]
  simp [hx, hy, hr]
theorem ok_mm {r : Option Operand} (h : ∀ b w1, New w b (.map #[] 0) w1 → K (upd f d (.map (some b))) w1) (hr : r = none) : OK P n ⟨some d, .makeMap t r, ty, pos, af, gd⟩ f w K := by
  subst hr
  refine ok_run (v := .map (some w.heap.size)) (w' := w.alloc (.map #[] 0)) ?_ (h _ _ (New.alloc w _))
  simp only [execOp, Instr.makeMap]
  simp
end
end Go.Proofs.Ytchjcjocihckpaa.G
