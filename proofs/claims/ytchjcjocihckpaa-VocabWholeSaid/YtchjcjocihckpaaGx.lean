/- Cells, rows, addresses, loads, stores, calls and results. -/
import Derived.Test.YtchjcjocihckpaaGw
import Derived.Laws.Cells
import Derived.Laws.BytesString
import Derived.Laws.CopyRow
import Derived.Lib.ConvBytes
namespace Go.Proofs.Ytchjcjocihckpaa.G
open Go Go.RowKit
/-- What is known of a type: its zero value, its cells, its bytes. -/
def TI (P : Program) (t : TypeId) (z : Value) (sz by' : Nat) : Prop := (P.info? t).map (fun i => (i.zero, i.size, i.bytes)) = some (some z, sz, by')
theorem TI.get {P : Program} {t : TypeId} {z : Value} {sz by' : Nat} (h : TI P t z sz by') : ∃ i, P.info? t = some i ∧ i.zero = some z ∧ i.size = sz ∧ i.bytes = by' := by
  unfold TI at h
  cases hi : P.info? t with
  | none => rw [hi] at h; cases h
  | some i => rw [hi] at h; simp at h; exact ⟨i, rfl, h.1, h.2.1, h.2.2⟩
/-- The cells of a row, from a place on. -/
def Cells (w : World) (b : Nat) : Nat → List Value → Prop
  | _, [] => True
  | o, v :: vs => w.cell? ⟨b, o, none⟩ = some v ∧ Cells w b (o + 1) vs
theorem Cells.n {w : World} {b o : Nat} : Cells w b o [] := trivial
theorem Cells.c {w : World} {b o : Nat} {v : Value} {vs : List Value} (h : w.cell? ⟨b, o, none⟩ = some v) (t : Cells w b (o + 1) vs) : Cells w b o (v :: vs) := ⟨h, t⟩
theorem Cells.at {w : World} {b : Nat} : ∀ {vs : List Value} {o : Nat}, Cells w b o vs → ∀ j v, vs[j]? = some v → w.cell? ⟨b, o + j, none⟩ = some v
  | [], _, _, j, v, h => by simp at h
  | u :: us, o, hc, 0, v, h => by simp at h; subst h; exact hc.1
  | u :: us, o, hc, j + 1, v, h => by
    have := Cells.at hc.2 j v (by simpa using h)
    rwa [show o + 1 + j = o + (j + 1) by omega] at this
theorem Cells.of {w : World} {b : Nat} : ∀ (vs : List Value) (o : Nat), (∀ j v, vs[j]? = some v → w.cell? ⟨b, o + j, none⟩ = some v) → Cells w b o vs
  | [], _, _ => trivial
  | u :: us, o, h => ⟨h 0 u (by simp), Cells.of us (o + 1) fun j v hj => by
    have := h (j + 1) v (by simpa using hj)
    rwa [show o + (j + 1) = o + 1 + j by omega] at this⟩
theorem Cells.chg {S : Nat → Prop} {w w1 : World} (h : Chg S w w1) {b : Nat} (hn : ¬ S b) : ∀ {vs : List Value} {o : Nat}, Cells w b o vs → Cells w1 b o vs
  | [], _, _ => trivial
  | _ :: _, _, hc => ⟨h.cell hc.1 hn, Cells.chg h hn hc.2⟩
theorem Cells.ext {w w1 : World} (h : Ext w w1) {b : Nat} {vs : List Value} {o : Nat} (hc : Cells w b o vs) : Cells w1 b o vs := Cells.chg h id hc
theorem Cells.blk {w : World} {b : Nat} {cs : Array Value} {t : TypeId} {fr : Nat × Nat} (h : w.heap[b]? = some (.cells cs t fr)) (vs : List Value) (o : Nat) (hv : ∀ j v, vs[j]? = some v → cs[o + j]? = some v) : Cells w b o vs :=
  Cells.of vs o fun j v hj => cell_blk h (hv j v hj)
theorem add_at (b o j : Nat) : (⟨b, o, none⟩ : Addr).add j = ⟨b, o + j, none⟩ := by
  unfold Addr.add; split
  · rename_i h; simp [h]
  · rfl
/-- Cells that may be written. -/
def Wr (w : World) (b o m : Nat) : Prop := ∃ cs t, w.heap[b]? = some (.cells cs t (0, 0)) ∧ o + m ≤ cs.size
def setRow (cs : Array Value) : Nat → List Value → Array Value
  | _, [] => cs
  | i, v :: vs => setRow (cs.setIfInBounds i v) (i + 1) vs
def setCells (w : World) (b : Nat) : Nat → List Value → World
  | _, [] => w
  | i, v :: vs => setCells (w.setCell ⟨b, i, none⟩ v) b (i + 1) vs
theorem setRow_size : ∀ (vs : List Value) (cs : Array Value) (i : Nat), (setRow cs i vs).size = cs.size
  | [], _, _ => rfl
  | v :: vs, cs, i => by simp [setRow, setRow_size vs]
theorem blk_sets {b : Nat} {t : TypeId} {fr : Nat × Nat} : ∀ (vs : List Value) {w : World} {cs : Array Value} (i : Nat), w.heap[b]? = some (.cells cs t fr) → (setCells w b i vs).heap[b]? = some (.cells (setRow cs i vs) t fr)
  | [], _, _, _, h => h
  | v :: vs, _, _, i, h => blk_sets vs (i + 1) (blk_set h i v)
theorem chg_sets (b : Nat) : ∀ (vs : List Value) (w : World) (i : Nat), Chg (fun c => c = b) w (setCells w b i vs)
  | [], w, _ => Chg.refl w
  | v :: vs, w, i => (Chg.setCell w ⟨b, i, none⟩ v).then (chg_sets b vs _ (i + 1))
theorem run_stores {P : Program} (b o : Nat) (t : TypeId) : ∀ (vs : List Value) (i : Nat) (cs : Array Value) (w : World), w.heap[b]? = some (.cells cs t (0, 0)) → o + i + vs.length ≤ cs.size → (∀ v ∈ vs, v.oneCell' = true) →
    (storeCells ⟨b, o, none⟩ vs i).run P w = .ok () (setCells w b (o + i) vs)
  | [], i, cs, w, _, _, _ => by simp [storeCells, setCells]
  | v :: vs, i, cs, w, h, hl, h1 => by
    simp only [List.length_cons] at hl
    have hi : o + i < cs.size := by omega
    have hc : w.cell? ⟨b, o + i, none⟩ = some cs[o + i] := cell_blk h (by simp [hi])
    have hf := frz_blk h (o + i)
    have hr : (store ((⟨b, o, none⟩ : Addr).add i) v).run P w = .ok () (w.setCell ⟨b, o + i, none⟩ v) := by
      rw [add_at]
      have := run_store P w ⟨b, o + i, none⟩ v .plain (h1 v (by simp))
      rw [this]; simp [hc, hf]
    simp only [storeCells, Sem.run_bind, hr, Result.andThen_ok]
    rw [run_stores b o t vs (i + 1) _ _ (blk_set h (o + i) v) (by simp; omega) (fun u hu => h1 u (by simp [hu]))]
    rfl
section
variable {P : Program} {n : Nat} {f : Env} {w : World} {K : Env → World → Prop}
variable {ty : TypeId} {pos : String} {af : Array Edge} {d : Nat} {gd : Option (Nat × Bool)}
def aggT : TypeDesc → Bool
  | .struct _ | .array _ _ => true
  | _ => false
theorem run_isAgg {t : TypeId} {u : TypeDesc} (h : P.underlying t = some u) : (isAgg t).run P w = .ok (aggT u) w := by
  unfold isAgg
  simp only [Sem.run_bind, run_underlying h, Result.andThen_ok]
  cases u <;> rfl
theorem r_fa {x : Operand} {b o o' : Nat} {s fl ft sz by' : Nat} {z : Value} {fs : Array Field} {fd : Field} (hs : P.underlying s = some (.struct fs)) (hf : fs[fl]? = some fd) (hft : fd.type = ft) (hi : TI P ft z sz by') (h0 : (sz == 0) = false) (hx : evn n f x = .pointer (some ⟨b, o, none⟩)) (ho : o + fd.offset = o') :
    RV P n f w ⟨some d, .fieldAddr s x fl, ty, pos, af, gd⟩ (.pointer (some ⟨b, o', none⟩)) := by
  subst ho; subst hft
  obtain ⟨i, hi, _, hz, _⟩ := hi.get
  have h0' : i.size ≠ 0 := by rw [hz]; simpa using h0
  unfold RV
  simp only [execOp, hx, Instr.fieldAt, Instr.sureAddr, fieldPlace]
  simp [run_underlying hs, hf, sizeOf, typeInfo, hi, h0', add_at]
theorem r_ia {x y : Operand} {t e : TypeId} {s : Sl} {k : IntKind} {j b o o' sz by' : Nat} {z : Value} (ht : P.underlying t = some (.slice e)) (hi : TI P e z sz by') (hx : evn n f x = s.v) (hy : evn n f y = .int k (j : Nat)) (hj : j < s.n) (hb : s.b = some ⟨b, o, none⟩) (ho : o + j * sz = o') :
    RV P n f w ⟨some d, .indexAddr t x y, ty, pos, af, gd⟩ (.pointer (some ⟨b, o', none⟩)) := by
  subst ho
  obtain ⟨i, hi, _, hz, _⟩ := hi.get
  unfold RV
  simp only [execOp, hx, hy, Instr.indexAt, Sl.v, asIntOf, hb]
  simp [run_underlying ht, sizeOf, typeInfo, hi, hz, hj, add_at]
theorem r_ld {x : Operand} {t : TypeId} {u : TypeDesc} {a : Addr} {v : Value} (hu : P.underlying t = some u) (ha : aggT u = false) (hx : evn n f x = .pointer (some a)) (hc : w.cell? a = some v) : RV P n f w ⟨some d, .load t x, ty, pos, af, gd⟩ v := by
  unfold RV
  simp only [execOp, hx, Instr.loadAt, Instr.sureAddr, loadVar]
  simp [run_isAgg hu, ha, hc]
theorem r_lda {x : Operand} {t : TypeId} {u : TypeDesc} {b o sz by' : Nat} {z : Value} {vs : List Value} (hu : P.underlying t = some u) (ha : aggT u = true) (hi : TI P t z sz by') (hx : evn n f x = .pointer (some ⟨b, o, none⟩)) (hl : vs.length = sz) (hc : Cells w b o vs) :
    RV P n f w ⟨some d, .load t x, ty, pos, af, gd⟩ (.agg vs.toArray) := by
  obtain ⟨i, hi, _, hs, _⟩ := hi.get
  have hr : (loadCells ⟨b, o, none⟩ vs.length).run P w = .ok vs.toArray w := run_loadCells_list w ⟨b, o, none⟩ vs fun j v hj => by rw [add_at]; exact hc.at j v hj
  unfold RV
  simp only [execOp, hx, Instr.loadAt, Instr.sureAddr, loadVar]
  simp [run_isAgg hu, ha, sizeOf, typeInfo, hi, hs, ← hl, hr]
theorem ok_st {x y : Operand} {t : TypeId} {b o sz by' : Nat} {z v : Value} {vs : List Value} (hi : TI P t z sz by') (hx : evn n f x = .pointer (some ⟨b, o, none⟩)) (hy : evn n f y = v) (hv : v.cells = vs.toArray) (hl : vs.length = sz) (h1 : vs.all (·.oneCell') = true) (hw : Wr w b o sz)
    (h : ∀ w1, w1 = setCells w b o vs → K f w1) : OK P n ⟨none, .store t x y, ty, pos, af, gd⟩ f w K := by
  obtain ⟨i, hi, _, hs, _⟩ := hi.get
  obtain ⟨cs, u, hb, hsz⟩ := hw
  have hr := run_stores (P := P) b o u vs 0 cs w hb (by omega) (fun v hv => by simpa using List.all_eq_true.1 h1 v hv)
  refine ok_skip (w' := setCells w b o vs) ?_ (h _ rfl)
  simp only [execOp, hx, hy, Instr.storeAt, Instr.sureAddr, storeVar]
  simp [sizeOf, typeInfo, hi, hs, hv, hl]
  simp [show (storeCells ⟨b, o, none⟩ vs).run P w = .ok () (setCells w b o vs) by simpa using hr]
theorem ok_al {t : TypeId} {sz by' : Nat} {z : Value} {cs : Array Value} (hi : TI P t z sz by') (hz : z.cells = cs) (h : ∀ b w1, New w b (.cells cs t (0, 0)) w1 → K (upd f d (.pointer (some ⟨b, 0, none⟩))) w1) : OK P n ⟨some d, .alloc t, ty, pos, af, gd⟩ f w K := by
  obtain ⟨i, hi, hz', _, _⟩ := hi.get
  refine ok_run (v := .pointer (some ⟨w.heap.size, 0, none⟩)) (w' := w.alloc (.cells cs t (0, 0))) ?_ (h _ _ (New.alloc w _))
  simp only [execOp, Instr.alloc]
  simp [zeroValue, typeInfo, hi, hz', newVar, newRow, hz]
theorem ok_bx {x : Operand} {t : TypeId} {v : Value} {cs : Array Value} (hx : evn n f x = v) (hv : v.cells = cs) (h : ∀ b w1, New w b (.cells cs t (0, 0)) w1 → K (upd f d (.pointer (some ⟨b, 0, none⟩))) w1) : OK P n ⟨some d, .box t x, ty, pos, af, gd⟩ f w K := by
  refine ok_run (v := .pointer (some ⟨w.heap.size, 0, none⟩)) (w' := w.alloc (.cells cs t (0, 0))) ?_ (h _ _ (New.alloc w _))
  simp only [execOp, hx, Instr.box]
  simp [newVar, newRow, hv]
theorem r_ex {x : Operand} {ix : Nat} {vs : Array Value} {v : Value} (hx : evn n f x = .tuple vs) (hv : vs[ix]? = some v) : RV P n f w ⟨some d, .extract x ix, ty, pos, af, gd⟩ v := by
  unfold RV
  simp only [execOp, hx, Instr.extract, hv]
  rfl
theorem r_ci {x : Operand} {s t : TypeId} {k j : IntKind} {i z : Int} {u : TypeDesc} (hx : evn n f x = .int j i) (hs : P.underlying s = some u) (ht : P.underlying t = some (.int k)) (hz : z = k.wrap i) : RV P n f w ⟨some d, .convert s t x, ty, pos, af, gd⟩ (.int k z) := by
  subst hz
  unfold RV
  simp only [execOp, hx, convert]
  simp [run_underlying ht, run_underlying hs, Conv.intToInt]
theorem r_len_s {x : Operand} {t : TypeId} {ats : Array TypeId} {s : ByteArray} (hx : evn n f x = .string s) (ha : ats[0]? = some t) (ht : P.underlying t = some .string) : RV P n f w ⟨some d, .call { callee := .builtin .len, args := #[x], argTypes := ats }, ty, pos, af, gd⟩ (.int .i64 (s.size : Nat)) := by
  unfold RV
  simp [execOp, hx, resolve, invoke, builtin, Builtin.len_, ha, run_underlying ht, goInt]
theorem r_len_l {x : Operand} {t e : TypeId} {ats : Array TypeId} {s : Sl} (hx : evn n f x = s.v) (ha : ats[0]? = some t) (ht : P.underlying t = some (.slice e)) : RV P n f w ⟨some d, .call { callee := .builtin .len, args := #[x], argTypes := ats }, ty, pos, af, gd⟩ (.int .i64 (s.n : Nat)) := by
  unfold RV
  simp [execOp, hx, resolve, invoke, builtin, Builtin.len_, ha, run_underlying ht, goInt, Sl.v]
/-- A function that has a body of its own. -/
def Cal (P : Program) (k : FuncId) : Prop := ∃ fn, P.funcs[k]? = some fn ∧ (fn.name == "runtime.NumGoroutine") = false ∧ fn.body.isNone = false
theorem ok_call {k : FuncId} {xs : List Operand} {ats : Array TypeId} {args : List Value} (hk : Cal P k) (hx : xs.map (evn n f) = args)
    (h : Calls P k args.toArray w fun e w' => ∃ v, e = .returned v ∧ K (upd f d v) w') : OK P n ⟨some d, .call { callee := .value (.func k), args := xs.toArray, argTypes := ats }, ty, pos, af, gd⟩ f w K := by
  obtain ⟨fn, hf, hn, hb⟩ := hk
  have hn' : ¬ fn.name = "runtime.NumGoroutine" := by simpa using hn
  have hb' : ¬ fn.body = none := fun e => by simp [e] at hb
  refine ok_enter (k := k) (args := args.toArray) (w' := w) ?_ h
  simp only [execOp, resolve, evn, Deferred.ofValue, invoke, callFunc]
  simp [hx, hf, hn', hb']
theorem ok_call0 {k : FuncId} {xs : List Operand} {ats : Array TypeId} {args : List Value} (hk : Cal P k) (hx : xs.map (evn n f) = args)
    (h : Calls P k args.toArray w fun e w' => ∃ v, e = .returned v ∧ K f w') : OK P n ⟨none, .call { callee := .value (.func k), args := xs.toArray, argTypes := ats }, ty, pos, af, gd⟩ f w K := by
  obtain ⟨fn, hf, hn, hb⟩ := hk
  have hn' : ¬ fn.name = "runtime.NumGoroutine" := by simpa using hn
  have hb' : ¬ fn.body = none := fun e => by simp [e] at hb
  refine ok_enter (k := k) (args := args.toArray) (w' := w) ?_ h
  simp only [execOp, resolve, evn, Deferred.ofValue, invoke, callFunc]
  simp [hx, hf, hn', hb']
/-- A call of a function value: of a round of a range over a function, or of a function of the program. -/
def CallV (P : Program) (v : Value) (args : List Value) (w : World) (R : Ending → World → Prop) : Prop :=
  (∃ l, v = .func (.yield l) #[] #[] ∧ YieldAt Fence.wide 0 P l args.toArray w R) ∨ ∃ k first caps, v = .func (.func k) first caps ∧ Cal P k ∧ Calls P k (first ++ args.toArray ++ caps) w R
theorem CallV.mono {P : Program} {v : Value} {args : List Value} {w : World} {R R' : Ending → World → Prop} (h : CallV P v args w R) (hr : ∀ e w', R e w' → R' e w') : CallV P v args w R' := by
  rcases h with ⟨l, h1, fn, tm, as, bd, h2, h3⟩ | ⟨k, first, caps, h1, h2, h3⟩
  · exact .inl ⟨l, h1, fn, tm, as, bd, h2, h3.mono hr⟩
  · exact .inr ⟨k, first, caps, h1, h2, h3.mono hr⟩
theorem oy_call {x : Operand} {xs : List Operand} {ats : Array TypeId} {v : Value} {args : List Value} (hv : evn n f x = v) (hx : xs.map (evn n f) = args)
    (h : CallV P v args w fun e w' => ∃ u, e = .returned u ∧ K (upd f d u) w') : OY P n ⟨some d, .call { callee := .value x, args := xs.toArray, argTypes := ats }, ty, pos, af, gd⟩ f w K := by
  rcases h with ⟨l, rfl, fn, tm, as, bd, h2, h3⟩ | ⟨k, first, caps, rfl, ⟨fn, hf, hn, hb⟩, h3⟩
  · refine ⟨.inr ⟨l, fn, tm, as, bd, ?_, h3⟩⟩
    simp only [execOp, resolve, hv, Deferred.ofValue, invoke]
    simp [hx]; exact h2
  · have hn' : ¬ fn.name = "runtime.NumGoroutine" := by simpa using hn
    have hb' : ¬ fn.body = none := fun e => by simp [e] at hb
    refine ⟨.inl ⟨k, _, ?_, h3⟩⟩
    simp only [execOp, resolve, hv, Deferred.ofValue, invoke, callFunc]
    simp [hx, hf, hn', hb']
theorem oy_call0 {x : Operand} {xs : List Operand} {ats : Array TypeId} {v : Value} {args : List Value} (hv : evn n f x = v) (hx : xs.map (evn n f) = args)
    (h : CallV P v args w fun e w' => ∃ u, e = .returned u ∧ K f w') : OY P n ⟨none, .call { callee := .value x, args := xs.toArray, argTypes := ats }, ty, pos, af, gd⟩ f w K := by
  rcases h with ⟨l, rfl, fn, tm, as, bd, h2, h3⟩ | ⟨k, first, caps, rfl, ⟨fn, hf, hn, hb⟩, h3⟩
  · refine ⟨.inr ⟨l, fn, tm, as, bd, ?_, h3⟩⟩
    simp only [execOp, resolve, hv, Deferred.ofValue, invoke]
    simp [hx]; exact h2
  · have hn' : ¬ fn.name = "runtime.NumGoroutine" := by simpa using hn
    have hb' : ¬ fn.body = none := fun e => by simp [e] at hb
    refine ⟨.inl ⟨k, _, ?_, h3⟩⟩
    simp only [execOp, resolve, hv, Deferred.ofValue, invoke, callFunc]
    simp [hx, hf, hn', hb']
/-! A function as a whole. -/
structure RS (P : Program) (n : Nat) (rs : Array ResultVar) (R : Value → World → Prop) (f : Env) (w : World) : Prop where
  out : ∀ a, FM n f a → ∀ fn : Func, fn.results = rs → LeavesInM Fence.wide 0 P fn a.tmps (fun e w' => ∃ v, e = .returned v ∧ R v w') a.defers .returning w
theorem rs_of {P : Program} {n : Nat} {rs : Array ResultVar} {R : Value → World → Prop} {f : Env} {w : World} (hd : f.ds = []) (h : ∀ a, FM n f a → ∀ fn : Func, fn.results = rs → ∃ v, (results fn a.tmps).run P w = .ok v w ∧ R v w) : RS P n rs R f w :=
  ⟨fun a ha fn hr => by
    obtain ⟨v, h1, h2⟩ := h a ha fn hr
    have : a.defers = [] := by rw [ha.df, hd]; rfl
    rw [this]
    exact ⟨v, h1, v, rfl, h2⟩⟩
/-- The block of a range's deferred calls is shut on the way out. -/
theorem rs_mk {P : Program} {n : Nat} {rs : Array ResultVar} {R : Value → World → Prop} {f : Env} {w : World} {D : Nat} {l : List Nat} (hd : f.ds = D :: l) (hD : w.heap[D]? = some (.deferred (some []))) (h : ∀ w1, Chg (fun b => b = D) w w1 → RS P n rs R (nm f l) w1) : RS P n rs R f w :=
  ⟨fun a ha fn hr => by
    have e : a.defers = mark D :: l.map mark := by rw [ha.df, hd]; rfl
    rw [e]
    refine ⟨fun h => (nomatch h), .inl ⟨D, _, rfl, run_takeDeferred hD, ?_⟩⟩
    have ha' : FM n (nm f l) { a with defers := l.map mark } := ⟨rfl, ha.sz, ha.gt⟩
    exact (h (w.putObj D (.deferred none)) ⟨rfl, rfl, rfl, by simp, fun b _ hn => World.putObj_heap_other (fun e => hn e)⟩).out _ ha' fn hr⟩
@[reducible] def qq (P : Program) (n : Nat) (rs : Array ResultVar) (R : Value → World → Prop) : Exit → Env → World → Prop
  | .normal, f, w | .ret, f, w => RS P n rs R f w
  | _, _, _ => False
def ini (l : List Value) : Env := ⟨fun t => l.getD t undef, []⟩
theorem calls_of_cw {k : FuncId} {fn : Func} {c : Code} {args : List Value} {rs : Array ResultVar} {R : Value → World → Prop} (hf : P.funcs[k]? = some fn) (hb : fn.body = some c) (hn : fn.ntmps = n) (hs : args.length ≤ n) (hr : fn.results = rs)
    (h : CW none P n c (qq P n rs R) (ini args) w) : Calls P k args.toArray w fun e w' => ∃ v, e = .returned v ∧ R v w' := by
  refine callsIn_wide.1 (callsIn_of_wp_marks (F := Fence.wide) (n := 0) hf hb trivial (wpIn_mono (h.out _ ?_) fun e a w hl => ?_))
  · subst hn
    have := FM.start args.toArray fn.ntmps (by simpa using hs)
    have e : (⟨fun t => args.toArray.getD t undef, []⟩ : Env) = ini args := by unfold ini; congr 1; funext t; simp
    rw [e] at this
    simpa using this
  · cases e with
    | normal => obtain ⟨f, hf, hq⟩ := hl; exact hq.out a hf fn hr
    | ret => obtain ⟨f, hf, hq⟩ := hl; exact hq.out a hf fn hr
    | exit id => obtain ⟨f, hf, hq⟩ := hl; exact hq.elim
    | goto l => obtain ⟨f, hf, hq⟩ := hl; exact hq.elim
    | panic c => exact hl.elim
    | outgrown => exact hl.elim
/-- One result. -/
def RV1 (P : Program) (n : Nat) (f : Env) (w : World) (r : ResultVar) (v : Value) : Prop :=
  match r with
  | .tmp t => evn n f (.tmp t) = v
  | .cell t ty => ∃ a, evn n f (.tmp t) = .pointer (some a) ∧ (loadVar ty a).run P w = .ok v w
theorem RV1.t {t : Tmp} {v : Value} (h : RV1 P n f w (.tmp t) v) {a : Act} (ha : FM n f a) : a.tmps[t]?.getD undef = v := by
  have := (ha.ev (.tmp t)).trans h; simpa only [Act.eval, Array.getD_eq_getD_getElem?] using this
theorem RV1.c {t : Tmp} {ty : TypeId} {v : Value} (h : RV1 P n f w (.cell t ty) v) {a : Act} (ha : FM n f a) : ∃ ad, a.tmps[t]?.getD undef = .pointer (some ad) ∧ (loadVar ty ad).run P w = .ok v w := by
  obtain ⟨ad, h1, h2⟩ := h
  have := (ha.ev (.tmp t)).trans h1
  exact ⟨ad, by simpa only [Act.eval, Array.getD_eq_getD_getElem?] using this, h2⟩
def rvS (tm : Array Value) : ResultVar → Sem Value
  | .tmp t => pure (tm.getD t undef)
  | .cell a t => do loadVar t (← asAddr (tm.getD a undef))
theorem RV1.run {r : ResultVar} {v : Value} (h : RV1 P n f w r v) {a : Act} (ha : FM n f a) : (rvS a.tmps r).run P w = .ok v w := by
  cases r with
  | tmp t => simp [rvS, h.t ha]
  | cell t ty => obtain ⟨ad, h1, h2⟩ := h.c ha; simp [rvS, h1, h2, asAddr]
theorem results_rvS (fn : Func) (tm : Array Value) : results fn tm = (do let vs ← fn.results.mapM (rvS tm); pure (if h : vs.size = 1 then vs[0] else .tuple vs)) := by
  unfold results
  congr 1
theorem rs_0 {R : Value → World → Prop} (h : R (.tuple #[]) w) (hd : f.ds = [] := by rfl) : RS P n #[] R f w := rs_of hd fun a _ fn hr => ⟨_, by rw [results_rvS, hr]; simp, h⟩
theorem rs_1 {R : Value → World → Prop} {r : ResultVar} {v : Value} (h1 : RV1 P n f w r v) (h : R v w) (hd : f.ds = [] := by rfl) : RS P n #[r] R f w := rs_of hd fun a ha fn hr => ⟨_, by
  rw [results_rvS, hr]
  simp only [Array.mapM_eq_mapM_toList, List.mapM_cons, List.mapM_nil]
  simp [h1.run ha], h⟩
theorem rs_2 {R : Value → World → Prop} {r r2 : ResultVar} {v v2 : Value} (h1 : RV1 P n f w r v) (h2 : RV1 P n f w r2 v2) (h : R (.tuple #[v, v2]) w) (hd : f.ds = [] := by rfl) : RS P n #[r, r2] R f w := rs_of hd fun a ha fn hr => ⟨_, by
  rw [results_rvS, hr]
  simp only [Array.mapM_eq_mapM_toList, List.mapM_cons, List.mapM_nil]
  simp [h1.run ha, h2.run ha], h⟩
theorem rs_3 {R : Value → World → Prop} {r r2 r3 : ResultVar} {v v2 v3 : Value} (h1 : RV1 P n f w r v) (h2 : RV1 P n f w r2 v2) (h3 : RV1 P n f w r3 v3) (h : R (.tuple #[v, v2, v3]) w) (hd : f.ds = [] := by rfl) : RS P n #[r, r2, r3] R f w := rs_of hd fun a ha fn hr => ⟨_, by
  rw [results_rvS, hr]
  simp only [Array.mapM_eq_mapM_toList, List.mapM_cons, List.mapM_nil]
  simp [h1.run ha, h2.run ha, h3.run ha], h⟩
theorem rc {t : Tmp} {ty : TypeId} {u : TypeDesc} {b o sz by' : Nat} {z : Value} {vs : List Value} (hu : P.underlying ty = some u) (ha : aggT u = true) (hi : TI P ty z sz by') (hx : evn n f (.tmp t) = .pointer (some ⟨b, o, none⟩)) (hl : vs.length = sz) (hc : Cells w b o vs) : RV1 P n f w (.cell t ty) (.agg vs.toArray) := by
  obtain ⟨i, hi, _, hs, _⟩ := hi.get
  have hr : (loadCells ⟨b, o, none⟩ vs.length).run P w = .ok vs.toArray w := run_loadCells_list w ⟨b, o, none⟩ vs fun j v hj => by rw [add_at]; exact hc.at j v hj
  refine ⟨_, hx, ?_⟩
  simp only [loadVar]
  simp [run_isAgg hu, ha, sizeOf, typeInfo, hi, hs, ← hl, hr]
end
end Go.Proofs.Ytchjcjocihckpaa.G
