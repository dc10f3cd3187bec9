/- Structs built, rows appended to, parts of slices and texts. -/
import Derived.Test.YtchjcjocihckpaaGy
import Derived.Laws.BytesString
import Derived.Laws.StructEq
namespace Go.Proofs.Ytchjcjocihckpaa.G
open Go Go.RowKit
section
variable {P : Program} {n : Nat} {f : Env} {w : World} {K : Env → World → Prop}
variable {ty : TypeId} {pos : String} {af : Array Edge} {d : Nat} {gd : Option (Nat × Bool)}
/-! Structs, rows. -/
theorem r_bd {t sz by' : Nat} {z : Value} {fs : Array Field} {ps : List (Nat × Operand)} {vs : List (Nat × Value)} {places : Array (Nat × Nat)} {cs : Array Value} (ht : P.underlying t = some (.struct fs)) (hi : TI P t z sz by')
    (hp : ∀ w : World, (fs.mapM fun (fd : Field) => (do pure (fd.offset, ← sizeOf fd.type) : Sem (Nat × Nat))).run P w = .ok places w) (hv : ps.map (fun p => (p.1, evn n f p.2)) = vs) (hf : Instr.fill (places[·]?) z.cells vs = some cs) :
    RV P n f w ⟨some d, .build t ps.toArray, ty, pos, af, gd⟩ (.agg cs) := by
  obtain ⟨i, hi, hz, _, _⟩ := hi.get
  unfold RV
  simp only [execOp, Instr.build]
  have e : (List.map (fun x : Nat × Operand => (x.1, evn n f x.2)) ps) = vs := hv
  have hp' := hp w
  simp only [bind_pure_comp] at hp'
  simp [zeroValue, typeInfo, hi, hz, run_underlying ht, hp', e, hf]
def zr (l : List Value) (m : Nat) : Array Value := ((List.range m).map fun j => l.getD (j % l.length) default).toArray
theorem zr_eq (c : Array Value) (m : Nat) : (Array.range m).map (c[· % c.size]!) = zr c.toList m := by
  apply Array.ext'
  simp [zr, Array.toList_range]
  intro a _
  simp [getElem!_def]
  cases c[a % c.size]? <;> rfl
theorem ok_bs {t e len sz by' : Nat} {z : Value} {ps : List (Nat × Operand)} {vs : List (Nat × Value)} {cs : Array Value} (ht : P.underlying t = some (.slice e)) (hi : TI P e z sz by') (hsz : (sz == 0) = false) (hl : (len * sz ≤ 2 ^ 24)) (hv : ps.map (fun p => (p.1, evn n f p.2)) = vs)
    (hf0 : Instr.fill (fun i => some (i * sz, sz)) (zr z.cells.toList (len * sz)) vs = some cs)
    (h : ∀ b w1, New w b (.cells cs e (0, 0)) w1 → K (upd f d (.slice (some ⟨b, 0, none⟩) len len)) w1) :
    OK P n ⟨some d, .buildSlice t len ps.toArray, ty, pos, af, gd⟩ f w K := by
  obtain ⟨i, hi, hz, hs, _⟩ := hi.get
  refine ok_run (v := .slice (some ⟨w.heap.size, 0, none⟩) len len) (w' := w.alloc (.cells cs e (0, 0))) ?_ (h _ _ (New.alloc w _))
  have hl' : ¬ (len * sz > 2 ^ 24) := by omega
  have hf := hf0
  rw [← zr_eq] at hf
  have e2 : (List.map (fun x : Nat × Operand => (x.1, evn n f x.2)) ps) = vs := hv
  simp only [execOp, Instr.buildSlice]
  by_cases h0 : len * sz = 0
  · have hlen : len = 0 := by
      rcases Nat.mul_eq_zero.1 h0 with h | h
      · exact h
      · rw [h] at hsz; simp at hsz
    subst hlen
    have h00 : (0 * sz) = 0 := Nat.zero_mul _
    rw [h00] at hf
    simp only [Sem.run_bind, run_underlying ht, Result.andThen_ok]
    have hr0 : ∀ g : Nat → Value, (Array.range 0).map g = #[] := fun g => by apply Array.ext'; simp [Array.range]
    rw [hr0] at hf
    simp [sizeOf, typeInfo, hi, hs, hr0, e2, hf, newRow]
  · simp only [Sem.run_bind, run_underlying ht, Result.andThen_ok]
    simp [sizeOf, typeInfo, hi, hs, hl', h0, zeroValue, hz, e2, hf, newRow]
/-! Appending. -/
def Sl.blk (s : Sl) : Option Nat := s.b.map (·.block)
theorem Sl.own_blk (s : Sl) : s.v.ownBlock = s.blk := by rcases s with ⟨_ | a, n, c⟩ <;> rfl
/-- A slice that is nil or has a row of its own. -/
abbrev Own (w : World) (e sz : Nat) (s : Sl) (xs : List Value) : Prop := w.ownsRow 0 e sz s.v s.n xs
structure App (w : World) (e sz : Nat) (s : Sl) (xs : List Value) (m : Nat) (news : List Value) (s' : Sl) (w1 : World) : Prop where
  own : Own w1 e sz s' (xs ++ news)
  len : s'.n = s.n + m
  chg : Chg (fun b => s.blk = some b) w w1
  loc : s'.blk = s.blk ∨ ∃ b, s'.blk = some b ∧ w.heap.size ≤ b
  nil : s'.b = none ↔ s.b = none ∧ m = 0
theorem ownsRow_ext {w w1 : World} {base e sz n : Nat} {v : Value} {xs : List Value} (x : Ext w w1) (h : w.ownsRow base e sz v n xs) : w1.ownsRow base e sz v n xs := by
  obtain ⟨hl, h | ⟨g, cap, cur, h1, h2, h3, h4⟩⟩ := h
  · exact ⟨hl, .inl h⟩
  · exact ⟨hl, .inr ⟨g, cap, cur, h1, h2, x.get h3, h4⟩⟩
theorem own_sl {w : World} {base e sz n : Nat} {v : Value} {xs : List Value} (h : w.ownsRow base e sz v n xs) : ∃ s : Sl, v = s.v ∧ s.n = n ∧ (s.b = none ↔ v = .slice none 0 0) := by
  obtain ⟨_, ⟨rfl, rfl⟩ | ⟨g, cap, cur, rfl, _⟩⟩ := h
  · exact ⟨⟨none, 0, 0⟩, rfl, rfl, by simp⟩
  · exact ⟨⟨some ⟨g, 0, none⟩, n, cap⟩, rfl, rfl, by simp⟩
theorem ok_app {x y : Operand} {t e sz by' : Nat} {z : Value} {wv : World} {s : Sl} {xs : List Value} {ab ao m c : Nat} {news : List Value} (ht : P.underlying t = some (.slice e)) (hi : TI P e z sz by') (hzs : z.cells.size = sz) (hsz : (sz == 0) = false)
    (hx : evn n f x = s.v) (hy : evn n f y = .slice (some ⟨ab, ao, none⟩) m c) (X : Ext wv w) (hown : Own wv e sz s xs) (hc : Cells w ab ao news) (hl : news.length = m * sz) (h1 : news.all (·.oneCell') = true) (hb : (s.n + m) * by' ≤ 140737488355328 ∧ s.n + m ≤ maxLen)
    (h : ∀ s' w1, App wv e sz s xs m news s' w1 → Chg (fun b => s.blk = some b) w w1 → K (upd f d s'.v) w1) :
    OK P n ⟨some d, .call { callee := .builtin .append, args := #[x, y], argTypes := #[t, t] }, ty, pos, af, gd⟩ f w K := by
  obtain ⟨i, hi, hz, hs, hby⟩ := hi.get
  have hsz' : 0 < sz := by rcases Nat.eq_zero_or_pos sz with h | h; (rw [h] at hsz; simp at hsz); exact h
  obtain ⟨v', w', hr, ho, hg, hn, hloc⟩ := run_append_own_at (P := P) w 0 t ty e i z sz by' ht hi hz hs hby hzs hsz' s.v s.n xs (ownsRow_ext X hown) ⟨ab, ao, none⟩ m c news hl (fun j u hu => by rw [add_at]; exact hc.at j u hu) (fun u hu => by simpa using List.all_eq_true.1 h1 u hu) hb.2 hb.1 (Nat.zero_le _)
  obtain ⟨s', rfl, hsn, hnil⟩ := own_sl ho
  have hg' : Chg (fun b => s.blk = some b) w w' := (Chg.of_grown hg).mono fun b _ hb => by rw [← Sl.own_blk]; exact hb.symm
  refine ok_run (v := s'.v) (w' := w') ?_ (h s' w' ⟨by rw [hsn.symm] at ho; exact ho, hsn, Chg.pre X hg', ?_, ?_⟩ hg')
  · simp only [execOp, resolve, invoke, builtin]
    simp [hx, hy, hr]
  · rw [Sl.own_blk, Sl.own_blk] at hloc
    rcases hloc with h | h
    · exact .inl h
    · exact .inr ⟨_, h, X.size⟩
  · rw [hnil, hn]
    constructor
    · rintro ⟨h, h2⟩; exact ⟨by rcases s with ⟨b, _, _⟩; simp [Sl.v] at h; exact h.1, h2⟩
    · rintro ⟨h, h2⟩
      refine ⟨?_, h2⟩
      obtain ⟨_, h3 | ⟨g, cap, cur, h3, _⟩⟩ := hown
      · exact h3.1
      · rcases s with ⟨b, _, _⟩; simp [Sl.v] at h3 h; rw [h] at h3; simp at h3
/-! Parts of texts and of slices. -/
theorem r_ss {x : Operand} {lo hi : Option Operand} {t : TypeId} {s : ByteArray} {l h : Nat} (hx : evn n f x = .string s) (ht : P.underlying t = some .string) (hl : lo.map (evn n f) = if lo.isSome then some (.int .i64 (l : Nat)) else none) (hh : hi.map (evn n f) = if hi.isSome then some (.int .i64 (h : Nat)) else none)
    (hl0 : lo.isSome = false → l = 0) (hh0 : hi.isSome = false → h = s.size) (h1 : l ≤ h ∧ h ≤ s.size) : RV P n f w ⟨some d, .slice t x lo hi none, ty, pos, af, gd⟩ (.string (s.extract l h)) := by
  have a1 : ((l : Nat) : Int) ≤ ((h : Nat) : Int) := by omega
  have a2 : ((h : Nat) : Int) ≤ ((s.size : Nat) : Int) := by omega
  unfold RV
  simp only [execOp, hx, Instr.sliceAt, hl, hh]
  simp only [Sem.run_bind, run_underlying ht, Result.andThen_ok]
  cases lo <;> cases hi <;> simp at hl0 hh0 <;> subst_vars <;> simp [Instr.slice, run_underlying ht, Instr.sliceBounds, Instr.sliceBound, asIntOf, h1.1, h1.2]
def Sl.sub (s : Sl) (l h sz : Nat) : Sl := ⟨if s.c = l then s.b else s.b.map (·.add (l * sz)), h - l, s.c - l⟩
theorem r_sl {x : Operand} {lo hi : Option Operand} {t e sz by' : Nat} {z : Value} {s : Sl} {l h : Nat} (hx : evn n f x = s.v) (ht : P.underlying t = some (.slice e)) (hi' : TI P e z sz by') (hl : lo.map (evn n f) = if lo.isSome then some (.int .i64 (l : Nat)) else none) (hh : hi.map (evn n f) = if hi.isSome then some (.int .i64 (h : Nat)) else none)
    (hl0 : lo.isSome = false → l = 0) (hh0 : hi.isSome = false → h = s.n) (h1 : l ≤ h ∧ h ≤ s.c) : RV P n f w ⟨some d, .slice t x lo hi none, ty, pos, af, gd⟩ (s.sub l h sz).v := by
  obtain ⟨i, hI, _, hs, _⟩ := hi'.get
  unfold RV
  simp only [execOp, hx, Instr.sliceAt, hl, hh]
  simp only [Sem.run_bind, run_underlying ht, Result.andThen_ok]
  cases lo <;> cases hi <;> simp at hl0 hh0 <;> subst_vars <;> simp [Instr.slice, Sl.v, Sl.sub, run_underlying ht, Instr.sliceBounds, Instr.sliceBound, asIntOf, h1.1, h1.2, sizeOf, typeInfo, hI]
/-! Numbers. -/
theorem r_max {x y : Operand} {ats : Array TypeId} {k : IntKind} {i j : Int} (hx : evn n f x = .int k i) (hy : evn n f y = .int k j) : RV P n f w ⟨some d, .call { callee := .builtin .max, args := #[x, y], argTypes := ats }, ty, pos, af, gd⟩ (.int k (max i j)) := by
  unfold RV
  simp only [execOp, resolve, invoke, builtin]
  have e : (if j > i then j else i) = max i j := by split <;> omega
  simp [hx, hy, Builtin.max_, Builtin.max2]
  exact e
theorem r_min {x y : Operand} {ats : Array TypeId} {k : IntKind} {i j : Int} (hx : evn n f x = .int k i) (hy : evn n f y = .int k j) : RV P n f w ⟨some d, .call { callee := .builtin .min, args := #[x, y], argTypes := ats }, ty, pos, af, gd⟩ (.int k (min i j)) := by
  unfold RV
  simp only [execOp, resolve, invoke, builtin]
  have e : (if j < i then j else i) = min i j := by split <;> omega
  simp [hx, hy, Builtin.min_, Builtin.min2]
  exact e
/-! Structs held against each other. -/
theorem part_leaf {t : TypeId} {u : TypeDesc} {cs : Array Value} {o : Nat} {v : Value} (hu : P.underlying t = some u) (ha : aggT u = false) (hv : cs[o]? = some v) : (part t cs o).run P w = .ok v w := by
  unfold part
  simp only [Sem.run_bind, run_isAgg hu, Result.andThen_ok, ha, Bool.false_eq_true, if_false, hv]
  rfl
/-- One field of two structs: alike? -/
def FEq (P : Program) (d : Nat) (xs ys : Array Value) (fd : Field) (b : Bool) : Prop := ∃ x y, (∀ w, (part fd.type xs fd.offset).run P w = .ok x w) ∧ (∀ w, (part fd.type ys fd.offset).run P w = .ok y w) ∧ ∀ w, (Op.equalIn d fd.type x y).run P w = .ok b w
theorem feq_int {dd : Nat} {xs ys : Array Value} {fd : Field} {k : IntKind} {i j : Int} (hu : P.underlying fd.type = some (.int k)) (hx : xs[fd.offset]? = some (.int k i)) (hy : ys[fd.offset]? = some (.int k j)) : FEq P (dd + 1) xs ys fd (decide (i = j)) :=
  ⟨_, _, fun _ => part_leaf hu rfl hx, fun _ => part_leaf hu rfl hy, fun w => by rw [← beq_dec]; unfold Op.equalIn; simp [run_underlying hu]⟩
theorem feq_str {dd : Nat} {xs ys : Array Value} {fd : Field} {i j : ByteArray} (hu : P.underlying fd.type = some .string) (hx : xs[fd.offset]? = some (.string i)) (hy : ys[fd.offset]? = some (.string j)) : FEq P (dd + 1) xs ys fd (decide (i = j)) :=
  ⟨_, _, fun _ => part_leaf hu rfl hx, fun _ => part_leaf hu rfl hy, fun w => by
    have e : (i == j) = decide (i = j) := by
      have h : (i == j) = (i.data == j.data) := rfl
      rw [h, beq_dec]; congr 1
      exact propext ⟨fun h => by cases i; cases j; simpa using h, fun h => by rw [h]⟩
    rw [← e]; unfold Op.equalIn; simp [run_underlying hu]⟩
inductive FEqs (P : Program) (dd : Nat) (xs ys : Array Value) : List Field → List Bool → Prop
  | nil : FEqs P dd xs ys [] []
  | cons {fd : Field} {b : Bool} {fs : List Field} {bs : List Bool} (hn : (fd.name == "_") = false) (h : FEq P dd xs ys fd b) (t : FEqs P dd xs ys fs bs) : FEqs P dd xs ys (fd :: fs) (b :: bs)
theorem FEqs.run {dd : Nat} {xs ys : Array Value} : ∀ {fs : List Field} {bs : List Bool}, FEqs P dd xs ys fs bs → ∀ w, (Op.eqFields dd xs ys fs).run P w = .ok (bs.all id) w
  | _, _, .nil, w => by simp [Op.eqFields]
  | _, _, .cons (b := b) hn h t, w => by
    obtain ⟨x, y, h1, h2, h3⟩ := h
    have ih := FEqs.run t w
    have hn' := by simpa using hn
    simp only [Op.eqFields]
    cases b <;> simp [hn', h1, h2, h3, ih]
theorem eq_struct {t : TypeId} {fs : List Field} {bs : List Bool} {dd : Nat} {xs ys : Array Value} (h : P.underlying t = some (.struct fs.toArray)) (hs : P.stoodInHeld t = false) (hf : FEqs P dd xs ys fs bs) : (Op.equalIn (dd + 1) t (.agg xs) (.agg ys)).run P w = .ok (bs.all id) w := by
  have hfo : P.fieldsOf t = fs.toArray := by simp [Program.fieldsOf, h]
  rw [run_equalIn_struct (P := P) w dd t xs ys (by rw [hfo]; exact h) hs, hfo]
  exact hf.run w
theorem al1 {p : Prop} [Decidable p] : [decide p].all id = decide p := by simp
theorem al2 {p q : Prop} [Decidable p] [Decidable q] : [decide p, decide q].all id = decide (p ∧ q) := by by_cases p <;> by_cases q <;> simp [*]
theorem al3 {p q r : Prop} [Decidable p] [Decidable q] [Decidable r] : [decide p, decide q, decide r].all id = decide (p ∧ q ∧ r) := by by_cases p <;> by_cases q <;> by_cases r <;> simp [*]
theorem al6 {p q r s t u : Prop} [Decidable p] [Decidable q] [Decidable r] [Decidable s] [Decidable t] [Decidable u] : [decide p, decide q, decide r, decide s, decide t, decide u].all id = decide (p ∧ q ∧ r ∧ s ∧ t ∧ u) := by
  by_cases p <;> by_cases q <;> by_cases r <;> by_cases s <;> by_cases t <;> by_cases u <;> simp [*]
section
variable {x y : Operand} {t yt : TypeId} {xs ys : Array Value} {fs : List Field} {bs : List Bool}
theorem a_eql {r : Bool} (h : P.underlying t = some (.struct fs.toArray)) (hsg : P.stoodInHeld t = false ∧ P.eqGuardType P.depth t = false) (hx : evn n f x = .agg xs) (hy : evn n f y = .agg ys) (hf : FEqs P 9999 xs ys fs bs) (hr : bs.all id = r) : RV P n f w ⟨some d, .binOp .eql t x y yt, ty, pos, af, gd⟩ (.bool r) := by
  subst hr; obtain ⟨hs, hg⟩ := hsg
  have e := eq_struct (w := w) h hs hf
  unfold RV
  simp only [execOp, hx, hy, eqGuard, binOp, Op.equal, Op.maxDepth]
  simp [hg, e]
theorem a_neq {r : Bool} (h : P.underlying t = some (.struct fs.toArray)) (hsg : P.stoodInHeld t = false ∧ P.eqGuardType P.depth t = false) (hx : evn n f x = .agg xs) (hy : evn n f y = .agg ys) (hf : FEqs P 9999 xs ys fs bs) (hr : bs.all id = r) : RV P n f w ⟨some d, .binOp .neq t x y yt, ty, pos, af, gd⟩ (.bool !r) := by
  subst hr; obtain ⟨hs, hg⟩ := hsg
  have e := eq_struct (w := w) h hs hf
  unfold RV
  simp only [execOp, hx, hy, eqGuard, binOp, Op.equal, Op.maxDepth]
  simp [hg, e]
end
theorem f_eqn {x y : Operand} {t yt : TypeId} {fn : Fn} {a b : Array Value} {u : TypeDesc} (h : P.underlying t = some u) (hu : (match u with | .func .. => true | _ => false) = true) (hx : evn n f x = .func fn a b) (hy : evn n f y = .nilFunc) : RV P n f w ⟨some d, .binOp .eql t x y yt, ty, pos, af, gd⟩ (.bool false) := by
  have e : ∀ m, (Op.equalIn (m + 1) t (.func fn a b) .nilFunc).run P w = .ok false w := fun m => by
    unfold Op.equalIn; cases u <;> simp at hu; simp [run_underlying h]
  unfold RV
  simp only [execOp, hx, hy, eqGuard, binOp, Op.equal, Op.maxDepth]
  simp [e 9999]
theorem r_quo {x y : Operand} {t yt : TypeId} {k : IntKind} {i j z : Int} (hx : evn n f x = .int k i) (hy : evn n f y = .int k j) (hj : j ≠ 0) (hz : z = k.wrap (i.tdiv j)) : RV P n f w ⟨some d, .binOp .quo t x y yt, ty, pos, af, gd⟩ (.int k z) := by
  subst hz; unfold RV; simp only [execOp, hx, hy, eqGuard, binOp, Op.intDiv]; simp [hj]
theorem r_rem {x y : Operand} {t yt : TypeId} {k : IntKind} {i j z : Int} (hx : evn n f x = .int k i) (hy : evn n f y = .int k j) (hj : j ≠ 0) (hz : z = i.tmod j) : RV P n f w ⟨some d, .binOp .rem t x y yt, ty, pos, af, gd⟩ (.int k z) := by
  subst hz; unfold RV; simp only [execOp, hx, hy, eqGuard, binOp, Op.intDiv]; simp [hj]
theorem r_mf {k : FuncId} {ps qs : List Operand} {vs us : List Value} (hv : ps.map (evn n f) = vs) (hu : qs.map (evn n f) = us) : RV P n f w ⟨some d, .makeFunc (.func k) ps.toArray qs.toArray, ty, pos, af, gd⟩ (.func (.func k) vs.toArray us.toArray) := by
  unfold RV; simp only [execOp, Instr.makeFunc]; simp [hv, hu]
/-! Bytes. -/
def byV (x : UInt8) : Value := .int .u8 (x.toNat : Nat)
/-- A slice that reads as bytes. -/
def Bys (w : World) (s : Sl) (l : List UInt8) : Prop := l.length = s.n ∧ ((s.b = none ∧ l = []) ∨ ∃ b o, s.b = some ⟨b, o, none⟩ ∧ Cells w b o (l.map byV))
theorem Bys.ext {w w1 : World} {s : Sl} {l : List UInt8} (x : Ext w w1) (h : Bys w s l) : Bys w1 s l := by
  obtain ⟨h1, h | ⟨b, o, h2, h3⟩⟩ := h
  · exact ⟨h1, .inl h⟩
  · exact ⟨h1, .inr ⟨b, o, h2, h3.ext x⟩⟩
theorem fold_bytes (l : List UInt8) : ∀ (r : ByteArray), (l.map (fun x : UInt8 => (x.toNat : Int))).foldl (fun r n => r.push (UInt8.ofNat n.toNat)) r = ⟨(r.data.toList ++ l).toArray⟩ := by
  induction l with
  | nil => intro r; cases r; simp
  | cons x l ih =>
    intro r
    simp only [List.map_cons, List.foldl_cons]
    rw [ih]
    congr 2
    simp [ByteArray.push]
theorem r_b2s {x : Operand} {s : Sl} {t u e : TypeId} {l : List UInt8} (ht : P.underlying t = some (.slice e)) (he : P.underlying e = some (.int .u8)) (hu : P.underlying u = some .string) (hx : evn n f x = s.v) (hb : Bys w s l) : RV P n f w ⟨some d, .convert t u x, ty, pos, af, gd⟩ (.string ⟨l.toArray⟩) := by
  obtain ⟨hl, ⟨h1, rfl⟩ | ⟨b, o, h1, h2⟩⟩ := hb
  · unfold RV
    simp only [execOp, hx, convert, Sl.v, h1]
    simp [run_underlying ht, run_underlying hu, run_underlying he, Conv.bytesToString]
    rfl
  · have hr : (loadCells ⟨b, o, none⟩ s.n).run P w = .ok (l.map byV).toArray w := by
      have := run_loadCells_list (P := P) w ⟨b, o, none⟩ (l.map byV) fun j v hj => by rw [add_at]; exact h2.at j v hj
      simpa [hl] using this
    have key := run_bytesToString (P := P) w ⟨b, o, none⟩ s.n s.c (l.map fun x : UInt8 => (x.toNat : Int))
    unfold RV
    simp only [execOp, hx, convert, Sl.v, h1]
    have key2 := key (by rw [hr]; simp [byV, Function.comp_def])
    rw [fold_bytes l ByteArray.empty] at key2
    simp [run_underlying ht, run_underlying hu, run_underlying he, key2]
theorem bys_row {b c : Nat} {cs : Array Value} {t : TypeId} {fr : Nat × Nat} {l : List UInt8} (h : w.heap[b]? = some (.cells cs t fr)) (hl : cs = (l.map byV).toArray) : Bys w ⟨some ⟨b, 0, none⟩, l.length, c⟩ l :=
  ⟨rfl, .inr ⟨b, 0, rfl, Cells.blk h _ 0 fun j v hj => by subst hl; simpa using hj⟩⟩
/-- A new row of a text's bytes. -/
structure BysNew (w w1 : World) (s : Sl) (x : ByteArray) : Prop where
  bys : Bys w1 s x.data.toList
  len : s.n = x.size
  fresh : ∃ b, s.b = some ⟨b, 0, none⟩ ∧ w.heap.size ≤ b
theorem Fresh.from {w w1 w2 : World} {s : Sl} {x : ByteArray} (h : Ext w w1) (k : BysNew w1 w2 s x) : BysNew w w2 s x := ⟨k.bys, k.len, by obtain ⟨b, h1, h2⟩ := k.fresh; exact ⟨b, h1, Nat.le_trans h.size h2⟩⟩
theorem ok_s2b {x : Operand} {s : ByteArray} {t u e : TypeId} (ht : P.underlying t = some .string) (hu : P.underlying u = some (.slice e)) (he : P.underlying e = some (.int .u8)) (hx : evn n f x = .string s)
    (h : ∀ (sl : Sl) w1, Ext w w1 → BysNew w w1 sl s → K (upd f d sl.v) w1) : OK P n ⟨some d, .convert t u x, ty, pos, af, gd⟩ f w K := by
  have hr := Lib.run_convert_string_bytes (P := P) w t u e s ht hu he
  have hx1 : Ext w (Lib.bytesWorld w e s) := ⟨rfl, rfl, rfl, by rw [Lib.bytesWorld_size]; omega, fun b hb _ => Lib.bytesWorld_at_old w e s b hb⟩
  refine ok_run (v := .slice (some ⟨w.heap.size, 0, none⟩) s.size (grownCap w s.size 0 e)) (w' := Lib.bytesWorld w e s) ?_ (h ⟨some ⟨w.heap.size, 0, none⟩, s.size, grownCap w s.size 0 e⟩ _ hx1 ?_)
  · simp only [execOp, hx]
    simp [hr]
  · have hsz : s.data.toList.length = s.size := by simp
    refine ⟨⟨hsz, .inr ⟨_, 0, rfl, Cells.of _ 0 fun j v hj => ?_⟩⟩, rfl, _, rfl, Nat.le_refl _⟩
    have hj2 : j < s.size := by
      have := (List.getElem?_eq_some_iff.1 hj).1
      simpa [hsz] using this
    rw [Nat.zero_add, Lib.bytesWorld_cell w e s j hj2]
    simp only [List.getElem?_map] at hj
    cases hq : s.data.toList[j]? with
    | none => rw [hq] at hj; cases hj
    | some q => rw [hq] at hj; simp [byV] at hj; simp [List.getD, hq, ← hj]
end
end Go.Proofs.Ytchjcjocihckpaa.G
