/- What a call changes; numbers, texts and pointers. -/
import Derived.Test.YtchjcjocihckpaaGv
import Derived.Maps.AppendAt
import Derived.Laws.Strings
import Derived.Laws.Strings2
import Derived.Laws.Strings3
import Derived.Laws.Slices
import Derived.Laws.Rows
import Derived.Laws.Entries
import Derived.ChangeKeysEq
namespace Go.Proofs.Ytchjcjocihckpaa.G
open Go Go.RowKit
/-! What a call has changed: the blocks in S alone, and new ones. -/
structure Chg (S : Nat → Prop) (w w' : World) : Prop where
  os : w'.os = w.os
  tape : w'.tape = w.tape
  output : w'.output = w.output
  size : w.heap.size ≤ w'.heap.size
  blk : ∀ b, b < w.heap.size → ¬ S b → w'.heap[b]? = w.heap[b]?
abbrev Ext (w w' : World) : Prop := Chg (fun _ => False) w w'
theorem lt_of_blk {w : World} {b : Nat} {o : Obj} (h : w.heap[b]? = some o) : b < w.heap.size := (Array.getElem?_eq_some_iff.1 h).1
theorem Chg.refl {S : Nat → Prop} (w : World) : Chg S w w := ⟨rfl, rfl, rfl, Nat.le_refl _, fun _ _ _ => rfl⟩
theorem Chg.trans {S S' S'' : Nat → Prop} {w w1 w2 : World} (h : Chg S w w1) (k : Chg S' w1 w2) (h1 : ∀ b, b < w.heap.size → S b → S'' b) (h2 : ∀ b, b < w.heap.size → S' b → S'' b) : Chg S'' w w2 :=
  ⟨k.os.trans h.os, k.tape.trans h.tape, k.output.trans h.output, Nat.le_trans h.size k.size, fun b hb hn =>
    (k.blk b (Nat.lt_of_lt_of_le hb h.size) (fun e => hn (h2 b hb e))).trans (h.blk b hb (fun e => hn (h1 b hb e)))⟩
theorem Chg.mono {S S' : Nat → Prop} {w w1 : World} (h : Chg S w w1) (hs : ∀ b, b < w.heap.size → S b → S' b) : Chg S' w w1 :=
  ⟨h.os, h.tape, h.output, h.size, fun b hb hn => h.blk b hb (fun e => hn (hs b hb e))⟩
theorem Chg.then {S : Nat → Prop} {w w1 w2 : World} (h : Chg S w w1) (k : Chg S w1 w2) : Chg S w w2 := h.trans k (fun _ _ h => h) (fun _ _ h => h)
theorem Chg.ext {S : Nat → Prop} {w w1 w2 : World} (h : Chg S w w1) (k : Ext w1 w2) : Chg S w w2 := h.trans k (fun _ _ h => h) (fun _ _ h => h.elim)
theorem Ext.chg {S : Nat → Prop} {w w1 : World} (h : Ext w w1) : Chg S w w1 := h.mono fun _ _ h => h.elim
theorem Ext.tr {w w1 w2 : World} (h : Ext w w1) (k : Ext w1 w2) : Ext w w2 := h.ext k
theorem Chg.get {S : Nat → Prop} {w w1 : World} (h : Chg S w w1) {b : Nat} {o : Obj} (hb : w.heap[b]? = some o) (hn : ¬ S b) : w1.heap[b]? = some o := (h.blk b (lt_of_blk hb) hn).trans hb
theorem Ext.get {w w1 : World} (h : Ext w w1) {b : Nat} {o : Obj} (hb : w.heap[b]? = some o) : w1.heap[b]? = some o := Chg.get h hb id
theorem Chg.cell {S : Nat → Prop} {w w1 : World} (h : Chg S w w1) {a : Addr} {v : Value} (hc : w.cell? a = some v) (hn : ¬ S a.block) : w1.cell? a = some v := by
  have : w1.heap[a.block]? = w.heap[a.block]? := h.blk _ (World.block_lt_of_cell? w a hc) hn
  simpa [World.cell?, this] using hc
theorem Ext.cell {w w1 : World} (h : Ext w w1) {a : Addr} {v : Value} (hc : w.cell? a = some v) : w1.cell? a = some v := Chg.cell h hc id
theorem Ext.drew (w : World) : Ext w w.drew := ⟨rfl, rfl, rfl, Nat.le_refl _, fun _ _ _ => rfl⟩
theorem Ext.alloc (w : World) (o : Obj) : Ext w (w.alloc o) := ⟨rfl, rfl, rfl, by rw [World.size_alloc]; omega, fun b hb _ => by
  show (w.heap.push o)[b]? = w.heap[b]?
  rw [Array.getElem?_push, if_neg (by omega)]⟩
theorem Chg.setCell (w : World) (a : Addr) (v : Value) : Chg (fun b => b = a.block) w (w.setCell a v) :=
  ⟨rfl, rfl, rfl, by simp [World.setCell], fun b _ hn => by simp [World.setCell, Array.getElem?_modify]; intro e; exact absurd e.symm hn⟩
theorem Chg.of_grown {w w' : World} {row : Option Nat} (h : w.grownBy w' row) : Chg (fun b => some b = row) w w' := ⟨h.os, h.tape, h.output, h.size, fun b hb hn => h.block b hb hn⟩
theorem Chg.of_below {w w' : World} (h : Below w.heap.size w w') : Ext w w' := ⟨h.os, h.tape, h.output, h.size, fun b hb _ => h.block b hb⟩
theorem Ext.below {w w' : World} (h : Ext w w') : Below w.heap.size w w' := ⟨h.os, h.tape, h.output, h.size, fun b hb => h.blk b hb id⟩
/-- A block that is new. -/
structure New (w : World) (b : Nat) (o : Obj) (w1 : World) : Prop where
  ext : Ext w w1
  fresh : w.heap.size ≤ b
  here : w1.heap[b]? = some o
theorem New.alloc (w : World) (o : Obj) : New w w.heap.size o (w.alloc o) := ⟨Ext.alloc w o, Nat.le_refl _, by show (w.heap.push o)[w.heap.size]? = some o; simp⟩
theorem New.from {w w1 w2 : World} {b : Nat} {o : Obj} (x : Ext w w1) (h : New w1 b o w2) : New w b o w2 := ⟨x.tr h.ext, Nat.le_trans x.size h.fresh, h.here⟩
/-- A block of one's own, hidden. -/
structure Priv (w : World) (b : Nat) (w1 : World) : Prop where
  ext : Ext w w1
  fresh : w.heap.size ≤ b
  lt : b < w1.heap.size
theorem New.priv {w w1 : World} {b : Nat} {o : Obj} (h : New w b o w1) : Priv w b w1 := ⟨h.ext, h.fresh, lt_of_blk h.here⟩
theorem blk_set {w : World} {b : Nat} {cs : Array Value} {t : TypeId} {fr : Nat × Nat} (h : w.heap[b]? = some (.cells cs t fr)) (i : Nat) (v : Value) : (w.setCell ⟨b, i, none⟩ v).heap[b]? = some (.cells (cs.setIfInBounds i v) t fr) := by
  simp [World.setCell, Array.getElem?_modify, h]
theorem cell_blk {w : World} {b : Nat} {cs : Array Value} {t : TypeId} {fr : Nat × Nat} (h : w.heap[b]? = some (.cells cs t fr)) {i : Nat} {v : Value} (hi : cs[i]? = some v) : w.cell? ⟨b, i, none⟩ = some v := by
  simp [World.cell?, h, hi]
theorem frz_blk {w : World} {b : Nat} {cs : Array Value} {t : TypeId} (h : w.heap[b]? = some (.cells cs t (0, 0))) (i : Nat) : w.frozen? ⟨b, i, none⟩ = false := by
  simp [World.frozen?, h]
/-- A slice. -/
structure Sl where
  b : Option Addr
  n : Nat
  c : Nat
  deriving Inhabited
@[reducible] def Sl.v (s : Sl) : Value := .slice s.b s.n s.c
section
variable {P : Program} {n : Nat} {f : Env} {w : World} {K : Env → World → Prop}
variable {ty : TypeId} {pos : String} {af : Array Edge} {d : Nat} {gd : Option (Nat × Bool)}
theorem r_mv {x : Operand} {v : Value} (hx : evn n f x = v) : RV P n f w ⟨some d, .move x, ty, pos, af, gd⟩ v := by simp [RV, execOp, hx, go_sem]
theorem r_as {x : Operand} {v : Value} (hx : evn n f x = v) : RV P n f w ⟨some d, .assign x, ty, pos, af, gd⟩ v := by simp [RV, execOp, hx, go_sem]
theorem r_pt {c x y : Operand} {b : Bool} {v : Value} (hc : evn n f c = .bool b) (hb : b = true) (hx : evn n f x = v) : RV P n f w ⟨some d, .pick c x y, ty, pos, af, gd⟩ v := by simp [RV, execOp, hc, hb, hx, go_sem]
theorem r_pf {c x y : Operand} {b : Bool} {v : Value} (hc : evn n f c = .bool b) (hb : b = false) (hx : evn n f y = v) : RV P n f w ⟨some d, .pick c x y, ty, pos, af, gd⟩ v := by simp [RV, execOp, hc, hb, hx, go_sem]
theorem r_not {x : Operand} {t : TypeId} {b : Bool} (hx : evn n f x = .bool b) : RV P n f w ⟨some d, .unOp .not t x, ty, pos, af, gd⟩ (.bool !b) := by simp [RV, execOp, hx, go_sem, Op.unary]
theorem r_neg {x : Operand} {t : TypeId} {k : IntKind} {i : Int} (hx : evn n f x = .int k i) : RV P n f w ⟨some d, .unOp .neg t x, ty, pos, af, gd⟩ (.int k (k.wrap (0 - i))) := by simp [RV, execOp, hx, go_sem, Op.unary, Op.intArith]
section
variable {x y : Operand} {t yt : TypeId} {k : IntKind} {i j : Int}
theorem r_add {z : Int} (hx : evn n f x = .int k i) (hy : evn n f y = .int k j) (hz : z = k.wrap (i + j)) : RV P n f w ⟨some d, .binOp .add t x y yt, ty, pos, af, gd⟩ (.int k z) := by subst hz; simp [RV, execOp, hx, hy, go_sem, eqGuard, binOp, Op.intArith]
theorem r_sub {z : Int} (hx : evn n f x = .int k i) (hy : evn n f y = .int k j) (hz : z = k.wrap (i - j)) : RV P n f w ⟨some d, .binOp .sub t x y yt, ty, pos, af, gd⟩ (.int k z) := by subst hz; simp [RV, execOp, hx, hy, go_sem, eqGuard, binOp, Op.intArith]
theorem r_mul {z : Int} (hx : evn n f x = .int k i) (hy : evn n f y = .int k j) (hz : z = k.wrap (i * j)) : RV P n f w ⟨some d, .binOp .mul t x y yt, ty, pos, af, gd⟩ (.int k z) := by subst hz; simp [RV, execOp, hx, hy, go_sem, eqGuard, binOp, Op.intArith]
theorem r_lss (hx : evn n f x = .int k i) (hy : evn n f y = .int k j) : RV P n f w ⟨some d, .binOp .lss t x y yt, ty, pos, af, gd⟩ (.bool (decide (i < j))) := by simp [RV, execOp, hx, hy, go_sem, eqGuard, binOp, Op.intCmp]
theorem r_leq (hx : evn n f x = .int k i) (hy : evn n f y = .int k j) : RV P n f w ⟨some d, .binOp .leq t x y yt, ty, pos, af, gd⟩ (.bool (decide (i ≤ j))) := by simp [RV, execOp, hx, hy, go_sem, eqGuard, binOp, Op.intCmp]
theorem r_gtr (hx : evn n f x = .int k i) (hy : evn n f y = .int k j) : RV P n f w ⟨some d, .binOp .gtr t x y yt, ty, pos, af, gd⟩ (.bool (decide (j < i))) := by simp [RV, execOp, hx, hy, go_sem, eqGuard, binOp, Op.intCmp]
theorem r_geq (hx : evn n f x = .int k i) (hy : evn n f y = .int k j) : RV P n f w ⟨some d, .binOp .geq t x y yt, ty, pos, af, gd⟩ (.bool (decide (j ≤ i))) := by simp [RV, execOp, hx, hy, go_sem, eqGuard, binOp, Op.intCmp]
theorem beq_dec {α : Type} [BEq α] [LawfulBEq α] [DecidableEq α] (a b : α) : (a == b) = decide (a = b) := by
  by_cases h : a = b <;> simp [h]
theorem r_eql (hx : evn n f x = .int k i) (hy : evn n f y = .int k j) : RV P n f w ⟨some d, .binOp .eql t x y yt, ty, pos, af, gd⟩ (.bool (decide (i = j))) := by
  simp [RV, execOp, hx, hy, go_sem, eqGuard, binOp, Op.intCmp]; rw [beq_dec]
theorem r_neq (hx : evn n f x = .int k i) (hy : evn n f y = .int k j) : RV P n f w ⟨some d, .binOp .neq t x y yt, ty, pos, af, gd⟩ (.bool (decide (i ≠ j))) := by
  simp [RV, execOp, hx, hy, go_sem, eqGuard, binOp, Op.intCmp, bne]; rw [beq_dec]
end
/-! Text. -/
theorem toList_data (s : ByteArray) : s.toList = s.data.toList := ByteArray.toList_eq s
/-- Is a text ahead of another? -/
def bless (a b : ByteArray) : Bool := Op.bytesLess a.data.toList b.data.toList
section
variable {x y : Operand} {t yt : TypeId} {a b : ByteArray}
theorem str_beq (a b : ByteArray) : (a.toList == b.toList) = decide (a = b) := by
  rw [beq_dec]
  congr 1
  rw [toList_data, toList_data]
  exact propext ⟨fun h => by cases a; cases b; simp at h; simp [h], fun h => by rw [h]⟩
theorem s_eql (hx : evn n f x = .string a) (hy : evn n f y = .string b) : RV P n f w ⟨some d, .binOp .eql t x y yt, ty, pos, af, gd⟩ (.bool (decide (a = b))) := by
  rw [← str_beq]; simp [RV, execOp, hx, hy, go_sem, eqGuard, binOp, Op.stringOp]
theorem s_neq (hx : evn n f x = .string a) (hy : evn n f y = .string b) : RV P n f w ⟨some d, .binOp .neq t x y yt, ty, pos, af, gd⟩ (.bool (decide (a ≠ b))) := by
  have := str_beq a b
  simp only [ne_eq, decide_not, ← this]; simp [RV, execOp, hx, hy, go_sem, eqGuard, binOp, Op.stringOp]
end
section
variable {x y : Operand} {t yt : TypeId} {a b : ByteArray}
theorem s_lss (hx : evn n f x = .string a) (hy : evn n f y = .string b) : RV P n f w ⟨some d, .binOp .lss t x y yt, ty, pos, af, gd⟩ (.bool (bless a b)) := by
  simp only [bless, ← toList_data]; simp [RV, execOp, hx, hy, go_sem, eqGuard, binOp, Op.stringOp]
theorem s_leq (hx : evn n f x = .string a) (hy : evn n f y = .string b) : RV P n f w ⟨some d, .binOp .leq t x y yt, ty, pos, af, gd⟩ (.bool (bless a b || decide (a = b))) := by
  rw [← str_beq]; simp only [bless, ← toList_data]; simp [RV, execOp, hx, hy, go_sem, eqGuard, binOp, Op.stringOp]
theorem s_cat (hx : evn n f x = .string a) (hy : evn n f y = .string b) (hs : a.size + b.size ≤ 9223372036854775807) : RV P n f w ⟨some d, .binOp .add t x y yt, ty, pos, af, gd⟩ (.string (a ++ b)) := by
  have h : ¬ (((a.size + b.size : Nat) : Int) > IntKind.i64.max) := by
    have : IntKind.i64.max = 9223372036854775807 := by decide
    rw [this]; omega
  unfold RV
  simp only [execOp, hx, hy, eqGuard, binOp, Op.stringOp, if_neg h]
  simp
end
theorem eq_bool (m : Nat) {t : TypeId} (b c : Bool) (ht : P.underlying t = some .bool) : (Op.equalIn (m + 1) t (.bool b) (.bool c)).run P w = .ok (b == c) w := by simp [Op.equalIn, run_underlying ht]
theorem eq_ptr (m : Nat) {t e : TypeId} (p : Option Addr) (ht : P.underlying t = some (.pointer e)) : (Op.equalIn (m + 1) t (.pointer p) (.pointer none)).run P w = .ok p.isNone w := by cases p <;> simp [Op.equalIn, run_underlying ht]
theorem eq_map (m : Nat) {t k e : TypeId} (p : Option Nat) (ht : P.underlying t = some (.map k e)) : (Op.equalIn (m + 1) t (.map p) (.map none)).run P w = .ok p.isNone w := by cases p <;> simp [Op.equalIn, run_underlying ht]
theorem isNone_dec {α : Type} [DecidableEq α] (p : Option α) : p.isNone = decide (p = none) := by cases p <;> simp
section
variable {x y : Operand} {t yt : TypeId}
theorem b_eql {b c : Bool} (hx : evn n f x = .bool b) (hy : evn n f y = .bool c) (ht : P.underlying t = some .bool) : RV P n f w ⟨some d, .binOp .eql t x y yt, ty, pos, af, gd⟩ (.bool (decide (b = c))) := by
  rw [← beq_dec]; unfold RV; simp only [execOp, hx, hy, eqGuard, binOp, Op.equal, Op.maxDepth]; simp [eq_bool 9999 b c ht]
theorem b_neq {b c : Bool} (hx : evn n f x = .bool b) (hy : evn n f y = .bool c) (ht : P.underlying t = some .bool) : RV P n f w ⟨some d, .binOp .neq t x y yt, ty, pos, af, gd⟩ (.bool (decide (b ≠ c))) := by
  simp only [ne_eq, decide_not, ← beq_dec]; unfold RV; simp only [execOp, hx, hy, eqGuard, binOp, Op.equal, Op.maxDepth]; simp [eq_bool 9999 b c ht]
theorem p_eqn {p : Option Addr} {e : TypeId} (hx : evn n f x = .pointer p) (hy : evn n f y = .pointer none) (ht : P.underlying t = some (.pointer e)) : RV P n f w ⟨some d, .binOp .eql t x y yt, ty, pos, af, gd⟩ (.bool (decide (p = none))) := by
  rw [← isNone_dec]; unfold RV; simp only [execOp, hx, hy, eqGuard, binOp, Op.equal, Op.maxDepth]; simp [eq_ptr 9999 p ht]
theorem p_nen {p : Option Addr} {e : TypeId} (hx : evn n f x = .pointer p) (hy : evn n f y = .pointer none) (ht : P.underlying t = some (.pointer e)) : RV P n f w ⟨some d, .binOp .neq t x y yt, ty, pos, af, gd⟩ (.bool (decide (p ≠ none))) := by
  simp only [ne_eq, decide_not, ← isNone_dec]; unfold RV; simp only [execOp, hx, hy, eqGuard, binOp, Op.equal, Op.maxDepth]; simp [eq_ptr 9999 p ht]
theorem m_eqn {p : Option Nat} {k e : TypeId} (hx : evn n f x = .map p) (hy : evn n f y = .map none) (ht : P.underlying t = some (.map k e)) : RV P n f w ⟨some d, .binOp .eql t x y yt, ty, pos, af, gd⟩ (.bool (decide (p = none))) := by
  rw [← isNone_dec]; unfold RV; simp only [execOp, hx, hy, eqGuard, binOp, Op.equal, Op.maxDepth]; simp [eq_map 9999 p ht]
end
theorem r_nc {x : Operand} {a : Addr} (hx : evn n f x = .pointer (some a)) : RV P n f w ⟨some d, .nilCheck x, ty, pos, af, gd⟩ (.pointer (some a)) := by simp [RV, execOp, hx, go_sem]
theorem r_ix {x y : Operand} {t : TypeId} {s : ByteArray} {k : IntKind} {j : Nat} (hx : evn n f x = .string s) (hy : evn n f y = .int k (j : Nat)) (ht : P.underlying t = some .string) (hj : j < s.size) :
    RV P n f w ⟨some d, .index t x y, ty, pos, af, gd⟩ (.int .u8 ((s.data.toList.getD j 0).toNat : Nat)) := by
  have e : s[j]? = some s[j] := getElem?_pos s j hj
  have e2 : s.data.toList.getD j 0 = s[j] := by
    have : s.data.toList[j]? = some s[j] := by
      rw [Array.getElem?_toList]; exact Array.getElem?_eq_some_iff.2 ⟨hj, rfl⟩
    simp [this]
  unfold RV
  rw [e2]
  simp only [execOp, hx, hy, Instr.index, asIntOf]
  simp [go_sem, underlying, ht, e]
end
end Go.Proofs.Ytchjcjocihckpaa.G
