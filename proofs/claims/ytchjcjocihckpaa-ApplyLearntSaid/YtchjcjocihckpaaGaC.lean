/- The framework: judgements over code, one rule per operation kind, memory. -/
import Derived.Tactics
import Derived.OrdersHeld
import Derived.StillTail
import Derived.Below
import Derived.Laws.AppendOwn
import Derived.KernelRfl
import Derived.TacticsIn
import Derived.RangeFuncLeaves
import Derived.RangeFuncWrites
import Derived.RangeFuncCalls
import Derived.RangeFuncRecord
import Derived.Maps.AppendAt
import Derived.Laws.Strings
import Derived.Laws.Strings2
import Derived.Laws.Strings3
import Derived.Laws.Slices
import Derived.Laws.Rows
import Derived.Laws.Entries
import Derived.ChangeKeysEq
import Derived.Laws.Cells
import Derived.Laws.BytesString
import Derived.Laws.CopyRow
import Derived.Lib.ConvBytes
import Derived.RegionTactic
import Derived.Laws.StructEq
import Derived.Laws.BitsLemmas
import Derived.RangeFuncFrom
import Derived.Maps.RangeRun
import Derived.Lib.FrozenHead
/- Code, regions and operations, said of what the temporaries hold. -/
namespace Go.Proofs.Ytchjcjocihckpaa.G
open Go
/-- What the temporaries of a frame hold. -/
structure Env where
  val : Nat → Value
  ds : List Nat
def upd (f : Env) (d : Nat) (v : Value) : Env := ⟨fun t => cond (Nat.beq t d) v (f.val t), f.ds⟩
/-- The marks of the ranges over functions that were begun. -/
def nm (f : Env) (l : List Nat) : Env := ⟨f.val, l⟩
theorem kn {f : Env} {l : List Nat} (h : f.ds = l) : f = nm f l := by subst h; rfl
def mark (D : Nat) : Deferred := { target := .collected D, args := #[] }
def updo (f : Env) : Option Nat → Value → Env
  | some d, v => upd f d v
  | none, _ => f
structure FM (n : Nat) (f : Env) (a : Act) : Prop where
  df : a.defers = f.ds.map mark
  sz : a.tmps.size = n
  gt : ∀ t, t < n → a.tmps[t]? = some (f.val t)
def evn (n : Nat) (f : Env) : Operand → Value
  | .tmp t => cond (Nat.blt t n) (f.val t) undef
  | .const v => v
  | .global g => .pointer (some ⟨g, 0, none⟩)
  | .func k => .func (.func k) #[] #[]
theorem FM.ev {n : Nat} {f : Env} {a : Act} (h : FM n f a) (x : Operand) : a.eval x = evn n f x := by
  cases x with
  | tmp t =>
    simp only [Act.eval, evn]
    by_cases ht : t < n
    · have : Nat.blt t n = true := by simpa using ht
      rw [this]; simp [h.gt t ht]
    · have : Nat.blt t n = false := by
        cases hb : Nat.blt t n with
        | false => rfl
        | true => exact absurd (by simpa using hb) ht
      rw [this]
      have h2 : a.tmps.size ≤ t := by rw [h.sz]; exact Nat.not_lt.1 ht
      simp [Array.getElem?_eq_none h2]
  | _ => rfl
theorem FM.put {n : Nat} {f : Env} {a : Act} (h : FM n f a) (d : Option Nat) (v : Value) : FM n (updo f d v) (a.put d v) := by
  cases d with
  | none => exact h
  | some d =>
    refine ⟨h.df, by simp [Act.put, h.sz], fun t ht => ?_⟩
    simp only [Act.put, updo, upd]
    by_cases e : t = d
    · subst e
      have : Nat.beq t t = true := by simp
      rw [this, Array.getElem?_setIfInBounds_self_of_lt (by rw [h.sz]; exact ht)]; rfl
    · have : Nat.beq t d = false := by
        cases hb : Nat.beq t d with
        | false => rfl
        | true => exact absurd (Nat.eq_of_beq_eq_true hb) e
      rw [this, Array.getElem?_setIfInBounds_ne (fun h => e h.symm)]; exact h.gt t ht
theorem FM.start (args : Array Value) (n : Nat) (hn : args.size ≤ n) : FM n ⟨fun t => args.getD t undef, []⟩ { tmps := args ++ Array.replicate (n - args.size) undef, defers := [] } := by
  refine ⟨rfl, by simp; omega, fun t ht => ?_⟩
  by_cases h : t < args.size
  · simp [Array.getElem?_append, h]
  · have h2 : t - args.size < n - args.size := by omega
    simp [Array.getElem?_append, h, h2]
/-- A slot that is known may be written out. -/
theorem kp {f g : Env} {d : Nat} {v : Value} (h : f = g) (hv : f.val d = v) : f = upd g d v := by
  subst h; subst hv
  rcases f with ⟨f, ds⟩
  simp only [upd, Env.mk.injEq, and_true]
  funext t
  cases hb : Nat.beq t d with
  | false => rfl
  | true => rw [Nat.eq_of_beq_eq_true hb]; rfl
def lift (n : Nat) (Q : Exit → Env → World → Prop) : Exit → Act → World → Prop
  | .panic _, _, _ => False
  | .outgrown, _, _ => False
  | e, a, w => ∃ f, FM n f a ∧ Q e f w
/-- The fence that asks nothing, in a round or in none. -/
def Fr (r : Option Nat) : Fence := { Fence.wide with round := r }
theorem not_defer {P : Program} {ev : Operand → Value} {o : Oper} {w w' : World} {x : Next} (h : (execOp ev o).run P w = .ok x w') (hx : ∀ d, x ≠ .defer d) : ∀ c, o.op ≠ .defer c := by
  intro c hc
  unfold execOp at h
  rw [hc] at h
  simp only [Sem.run_bind] at h
  cases e : (resolve ev c o.type).run P w with
  | ok d w1 => rw [e] at h; simp at h; exact hx _ h.1.symm
  | halt q w1 => rw [e] at h; simp at h
/-- A piece of code, from a frame that holds 'f'. -/
structure CW (r : Option Nat) (P : Program) (n : Nat) (c : Code) (Q : Exit → Env → World → Prop) (f : Env) (w : World) : Prop where
  out : ∀ a, FM n f a → c.wpIn (Fr r) 0 P (lift n Q) a w
/-- The operations of a tail, one behind the other. -/
structure TL (P : Program) (n : Nat) (ops : Array Oper) (Q : Exit → Env → World → Prop) (l : List Oper) (f : Env) (w : World) : Prop where
  out : ∀ a, FM n f a → wpList P ops (lift n Q) l a w
/-- The operations of a region, one behind the other. -/
structure SL (r : Option Nat) (P : Program) (n : Nat) (ops : Array Oper) (Q : Exit → Env → World → Prop) (l : List Oper) (f : Env) (w : World) : Prop where
  out : ∀ a, FM n f a → wpListIn (Fr r) 0 P ops (lift n Q) l a w
section
variable {r : Option Nat} {P : Program} {n : Nat} {Q : Exit → Env → World → Prop} {f : Env} {w : World}
@[reducible] def thn (K : Env → World → Prop) (Q : Exit → Env → World → Prop) : Exit → Env → World → Prop
  | .normal, f, w => K f w
  | e, f, w => Q e f w
@[reducible] def inb (id : Nat) (Q : Exit → Env → World → Prop) : Exit → Env → World → Prop
  | .exit id', f, w => cond (Nat.beq id' id) (Q .normal f w) (Q (.exit id') f w)
  | e, f, w => Q e f w
theorem cw_mono {c : Code} {Q' : Exit → Env → World → Prop} (h : CW r P n c Q f w) (hq : ∀ e f w, Q e f w → Q' e f w) : CW r P n c Q' f w :=
  ⟨fun a ha => wpIn_mono (h.out a ha) fun e _ w hl => by
    cases e <;> first | exact hl | (obtain ⟨f, hf, hQ⟩ := hl; exact ⟨f, hf, hq _ f w hQ⟩)⟩
theorem cw_seq {x y : Code} (h : CW r P n x (thn (CW r P n y Q) Q) f w) : CW r P n (.seq x y) Q f w :=
  ⟨fun a ha => wpIn_seq (wpIn_mono (h.out a ha) fun e a w hl => by
    cases e <;> first | exact hl | (obtain ⟨f, hf, hc⟩ := hl; exact hc.out a hf))⟩
theorem cw_mid (M : Env → World → Prop) {x y : Code} (h : CW r P n x (thn M Q) f w) (hM : ∀ f w, M f w → CW r P n y Q f w) : CW r P n (.seq x y) Q f w :=
  cw_seq (cw_mono h fun e f w h => by cases e <;> first | exact hM _ _ h | exact h)
theorem cw_skip (h : Q .normal f w) : CW r P n .skip Q f w := ⟨fun _ ha => wpIn_skip ⟨f, ha, h⟩⟩
theorem cw_exit {id : Nat} (h : Q (.exit id) f w) : CW r P n (.exit id) Q f w := ⟨fun _ ha => wpIn_exit ⟨f, ha, h⟩⟩
theorem cw_ret (h : Q .ret f w) : CW r P n .ret Q f w := ⟨fun _ ha => wpIn_ret ⟨f, ha, h⟩⟩
theorem cw_cond {c : Operand} {x y : Code} {b : Bool} (hc : evn n f c = .bool b) (h1 : b = true → CW r P n x Q f w) (h2 : b = false → CW r P n y Q f w) : CW r P n (.cond c x y) Q f w :=
  ⟨fun a ha => wpIn_cond_split ((ha.ev c).trans hc) (fun h => (h1 h).out a ha) (fun h => (h2 h).out a ha)⟩
theorem cw_ct {c : Operand} {x y : Code} {b : Bool} (hc : evn n f c = .bool b) (hb : b = true) (h1 : CW r P n x Q f w) : CW r P n (.cond c x y) Q f w :=
  cw_cond hc (fun _ => h1) (fun h => by rw [hb] at h; cases h)
theorem cw_cf {c : Operand} {x y : Code} {b : Bool} (hc : evn n f c = .bool b) (hb : b = false) (h1 : CW r P n y Q f w) : CW r P n (.cond c x y) Q f w :=
  cw_cond hc (fun h => by rw [hb] at h; cases h) (fun _ => h1)
theorem cw_block {id : Nat} {c : Code} (h : CW r P n c (inb id Q) f w) : CW r P n (.block id c) Q f w :=
  ⟨fun a ha => wpIn_block (wpIn_mono (h.out a ha) fun e a w hl => by
    cases e with
    | exit id' =>
      obtain ⟨f, hf, hQ⟩ := hl
      simp only [inb] at hQ
      simp only [Exit.inBlock]
      by_cases e : id' = id
      · rw [if_pos e]; subst e; exact ⟨f, hf, by simpa using hQ⟩
      · rw [if_neg e]
        have : Nat.beq id' id = false := by
          cases hb : Nat.beq id' id with
          | false => rfl
          | true => exact absurd (Nat.eq_of_beq_eq_true hb) e
        rw [this] at hQ
        exact ⟨f, hf, hQ⟩
    | _ => exact hl)⟩
theorem cw_bmid (M : Env → World → Prop) {id : Nat} {c : Code} (h : CW r P n c (inb id (thn M Q)) f w) (hM : ∀ f w, M f w → Q .normal f w) : CW r P n (.block id c) Q f w :=
  cw_block (cw_mono h fun e f w h => by
    cases e with
    | normal => exact hM _ _ h
    | exit id' =>
      simp only [inb] at h ⊢
      cases hb : Nat.beq id' id with
      | true => rw [hb] at h; exact hM _ _ h
      | false => rw [hb] at h; exact h
    | _ => exact h)
theorem least_exists {p : Nat → Prop} (h : ∃ m, p m) : ∃ m, p m ∧ ∀ k, p k → m ≤ k := by
  obtain ⟨m, hm⟩ := h
  induction m using Nat.strongRecOn with
  | _ m ih =>
    by_cases hk : ∃ k, k < m ∧ p k
    · obtain ⟨k, hk, hp⟩ := hk; exact ih k hk hp
    · exact ⟨m, hm, fun k hp => by
        rcases Nat.lt_or_ge k m with h | h
        · exact absurd ⟨k, h, hp⟩ hk
        · exact h⟩
open Classical in
noncomputable def least (p : Nat → Prop) : Nat := if h : ∃ m, p m then (least_exists h).choose else 0
theorem least_spec {p : Nat → Prop} {m : Nat} (h : p m) : p (least p) ∧ least p ≤ m := by
  have hx : ∃ m, p m := ⟨m, h⟩
  simp only [least, hx, dif_pos]
  exact ⟨(least_exists hx).choose_spec.1, (least_exists hx).choose_spec.2 m h⟩
theorem cw_loop {c : Code} {σ : Type} (F : σ → Env → Env) (I : σ → World → Prop) (μ : σ → World → Nat) (s : σ) (g : Env) (hf : f = F s g) (h0 : I s w)
    (round : ∀ (s : σ) (g : Env) (w : World), I s w → CW r P n c (thn (fun f' w' => ∃ s' g', f' = F s' g' ∧ I s' w' ∧ μ s' w' < μ s w) Q) (F s g) w) : CW r P n (.loop c) Q f w := by
  subst hf
  refine ⟨fun a ha => ?_⟩
  refine wpIn_loop (fun a w => ∃ m s g, FM n (F s g) a ∧ I s w ∧ μ s w = m) (fun a w => least (fun m => ∃ s g, FM n (F s g) a ∧ I s w ∧ μ s w = m)) ⟨_, s, g, ha, h0, rfl⟩ ?_
  rintro a w ⟨m, hm⟩
  obtain ⟨hl, _⟩ := least_spec (p := fun m => ∃ s g, FM n (F s g) a ∧ I s w ∧ μ s w = m) hm
  obtain ⟨s, g, ha, hI, he⟩ := hl
  refine wpIn_mono ((round s g w hI).out a ha) fun e a' w' h => ?_
  cases e with
  | normal =>
    obtain ⟨f', ha', s', g', rfl, hI', hlt⟩ := h
    refine ⟨⟨_, s', g', ha', hI', rfl⟩, ?_⟩
    have := (least_spec (p := fun m => ∃ s g, FM n (F s g) a' ∧ I s w' ∧ μ s w' = m) ⟨s', g', ha', hI', rfl⟩).2
    rw [← he]; exact Nat.lt_of_le_of_lt this hlt
  | _ => exact h
/-! One operation. -/
structure OK (P : Program) (n : Nat) (o : Oper) (f : Env) (w : World) (K : Env → World → Prop) : Prop where
  out : (∃ v w', (execOp (evn n f) o).run P w = .ok (.value v) w' ∧ K (updo f o.dst v) w') ∨ (∃ w', (execOp (evn n f) o).run P w = .ok .skip w' ∧ K (updo f o.dst undef) w') ∨
    ∃ k args w', (execOp (evn n f) o).run P w = .ok (.enter k args) w' ∧ Calls P k args w' fun e w'' => ∃ v, e = .returned v ∧ K (updo f o.dst v) w''
theorem OK.wp {P : Program} {n : Nat} {o : Oper} {f : Env} {w : World} {K : Env → World → Prop} (h : OK P n o f w K) (a : Act) (ha : FM n f a) (K' : Act → World → Prop) (Q' : Exit → Act → World → Prop) (hK : ∀ a' f' w', FM n f' a' → K f' w' → K' a' w') : o.wp P a w K' Q' := by
  have e : a.eval = evn n f := funext ha.ev
  rcases h.out with ⟨v, w', hr, hk⟩ | ⟨w', hr, hk⟩ | ⟨k, args, w', hr, hk⟩
  · unfold Oper.wp; rw [e, hr]; exact hK _ _ _ (ha.put _ _) hk
  · unfold Oper.wp; rw [e, hr]; exact hK _ _ _ (ha.put _ _) hk
  · unfold Oper.wp; rw [e, hr]
    exact hk.mono fun e w'' ⟨v, he, hs⟩ => by subst he; exact hK _ _ _ (ha.put _ _) hs
theorem OK.wpIn {r : Option Nat} {P : Program} {n : Nat} {o : Oper} {f : Env} {w : World} {K : Env → World → Prop} (h : OK P n o f w K) (a : Act) (ha : FM n f a) (K' : Act → World → Prop) (Q' : Exit → Act → World → Prop) (hK : ∀ a' f' w', FM n f' a' → K f' w' → K' a' w') : o.wpIn (Fr r) 0 P a w K' Q' := by
  have e : a.eval = evn n f := funext ha.ev
  refine ⟨fun _ _ => trivial, ?_⟩
  rw [e]
  rcases h.out with ⟨v, w', hr, hk⟩ | ⟨w', hr, hk⟩ | ⟨k, args, w', hr, hk⟩
  · rw [Oper.semAt_eq _ _ _ (not_defer hr fun d h => by cases h), hr]; exact hK _ _ _ (ha.put _ _) hk
  · rw [Oper.semAt_eq _ _ _ (not_defer hr fun d h => by cases h), hr]; exact hK _ _ _ (ha.put _ _) hk
  · rw [Oper.semAt_eq _ _ _ (not_defer hr fun d h => by cases h), hr]
    refine ⟨(fun h => nomatch h), ?_⟩
    have hc : CallsIn (Fr r) 0 P k args w' fun e w'' => ∃ v, e = .returned v ∧ K (updo f o.dst v) w'' := callsIn_wide (n := 0).2 hk
    exact hc.mono fun e w'' ⟨v, he, hs⟩ => by subst he; exact hK _ _ _ (ha.put _ _) hs
/-- An operation that yields a value and leaves the world alone. -/
def RV (P : Program) (n : Nat) (f : Env) (w : World) (o : Oper) (v : Value) : Prop := (execOp (evn n f) o).run P w = .ok (.value v) w
theorem RV.cast {P : Program} {n : Nat} {f : Env} {w : World} {o : Oper} {v v' : Value} (e : v' = v) (h : RV P n f w o v) : RV P n f w o v' := e ▸ h
variable {o : Oper} {K : Env → World → Prop}
theorem ok_run {v : Value} {w' : World} (hr : (execOp (evn n f) o).run P w = .ok (.value v) w') (h : K (updo f o.dst v) w') : OK P n o f w K := ⟨.inl ⟨v, w', hr, h⟩⟩
theorem ok_v {v : Value} (hr : RV P n f w o v) (h : K (updo f o.dst v) w) : OK P n o f w K := ok_run hr h
theorem ok_skip {w' : World} (hr : (execOp (evn n f) o).run P w = .ok .skip w') (h : K (updo f o.dst undef) w') : OK P n o f w K := ⟨.inr (.inl ⟨w', hr, h⟩)⟩
theorem ok_enter {k : FuncId} {args : Array Value} {w' : World} (hr : (execOp (evn n f) o).run P w = .ok (.enter k args) w')
    (h : Calls P k args w' fun e w'' => ∃ v, e = .returned v ∧ K (updo f o.dst v) w'') : OK P n o f w K := ⟨.inr (.inr ⟨k, args, w', hr, h⟩)⟩
/-! An operation that calls a function value: one that was handed in, or a round. -/
structure OY (P : Program) (n : Nat) (o : Oper) (f : Env) (w : World) (K : Env → World → Prop) : Prop where
  out : (∃ k args, (execOp (evn n f) o).run P w = .ok (.enter k args) w ∧ Calls P k args w fun e w' => ∃ v, e = .returned v ∧ K (updo f o.dst v) w') ∨
    ∃ l fn tm as bd, (execOp (evn n f) o).run P w = .ok (.round l fn tm as bd) w ∧ RoundIn Fence.wide 0 P l fn tm as bd w fun e w' => ∃ v, e = .returned v ∧ K (updo f o.dst v) w'
theorem OY.wpIn {r : Option Nat} {P : Program} {n : Nat} {o : Oper} {f : Env} {w : World} {K : Env → World → Prop} (h : OY P n o f w K) (a : Act) (ha : FM n f a) (K' : Act → World → Prop) (Q' : Exit → Act → World → Prop) (hK : ∀ a' f' w', FM n f' a' → K f' w' → K' a' w') : o.wpIn (Fr r) 0 P a w K' Q' := by
  have e : a.eval = evn n f := funext ha.ev
  refine ⟨fun _ _ => trivial, ?_⟩
  rw [e]
  rcases h.out with ⟨k, args, hr, hk⟩ | ⟨l, fn, tm, as, bd, hr, hk⟩
  · rw [Oper.semAt_eq _ _ _ (not_defer hr fun d h => by cases h), hr]
    refine ⟨(fun h => nomatch h), ?_⟩
    have hc : CallsIn (Fr r) 0 P k args w fun e w'' => ∃ v, e = .returned v ∧ K (updo f o.dst v) w'' := callsIn_wide (n := 0).2 hk
    exact hc.mono fun e w'' ⟨v, he, hs⟩ => by subst he; exact hK _ _ _ (ha.put _ _) hs
  · rw [Oper.semAt_eq _ _ _ (not_defer hr fun d h => by cases h), hr]
    refine ⟨(fun h => nomatch h), ?_⟩
    have hc : RoundIn (Fr r) 0 P l fn tm as bd w fun e w'' => ∃ v, e = .returned v ∧ K (updo f o.dst v) w'' := hk
    exact hc.mono fun e w'' ⟨v, he, hs⟩ => by subst he; exact hK _ _ _ (ha.put _ _) hs
/-! A region that keeps its order. -/
variable {ops : Array Oper} {rest : List Oper}
theorem cw_region {id : Nat} {l : List Oper} (h : SL r P n l.toArray Q l f w) : CW r P n (.region id l.toArray false) Q f w := ⟨fun a ha => wpIn_region_lit (h.out a ha)⟩
theorem sl_nil (h : Q .normal f w) : SL r P n ops Q [] f w := ⟨fun _ ha => wpListIn_nil ⟨f, ha, h⟩⟩
theorem sl_op (hg : o.guard = none) (h : OK P n o f w (SL r P n ops Q rest)) : SL r P n ops Q (o :: rest) f w :=
  ⟨fun a ha => wpListIn_plain hg fun _ hK => h.wpIn a ha _ _ fun a' _ w' ha' hs => hK a' w' (hs.out a' ha')⟩
theorem sl_v {v : Value} (hg : o.guard = none) (hr : RV P n f w o v) (h : SL r P n ops Q rest (updo f o.dst v) w) : SL r P n ops Q (o :: rest) f w := sl_op hg (ok_v hr h)
theorem yl {a : Act} (ha : FM n f a) {j t : Nat} {b : Bool} (hj : (ops[j]?).bind (·.dst) = some t) (hb : evn n f (.tmp t) = .bool b) : yielded ops a.tmps j = some b := by
  have h1 := (ha.ev (.tmp t)).trans hb
  simp only [Act.eval] at h1
  unfold yielded
  rw [hj]
  simp only [Option.bind_some]
  cases h2 : a.tmps[t]? with
  | none => simp [h2, undef] at h1
  | some v => simp [h2] at h1; rw [h1]
theorem sl_g {j t : Nat} {b c : Bool} (hg : o.guard = some (j, c)) (hj : (ops[j]?).bind (·.dst) = some t) (hb : evn n f (.tmp t) = .bool b) (hc : b = c) (h : OK P n o f w (SL r P n ops Q rest)) : SL r P n ops Q (o :: rest) f w :=
  ⟨fun a ha => wpListIn_step fun _ hK => by
    rw [if_pos (by simp [Region.wanted, hg, yl ha hj hb, hc])]
    exact h.wpIn a ha _ _ fun a' _ w' ha' hs => hK a' w' (hs.out a' ha')⟩
theorem sl_vg {v : Value} {j t : Nat} {b c : Bool} (hg : o.guard = some (j, c)) (hj : (ops[j]?).bind (·.dst) = some t) (hb : evn n f (.tmp t) = .bool b) (hc : b = c) (hr : RV P n f w o v) (h : SL r P n ops Q rest (updo f o.dst v) w) : SL r P n ops Q (o :: rest) f w :=
  sl_g hg hj hb hc (ok_v hr h)
theorem sl_no {j t : Nat} {b c : Bool} (hg : o.guard = some (j, c)) (hj : (ops[j]?).bind (·.dst) = some t) (hb : evn n f (.tmp t) = .bool b) (hc : b = !c) (h : SL r P n ops Q rest (updo f o.dst undef) w) : SL r P n ops Q (o :: rest) f w :=
  ⟨fun a ha => wpListIn_step fun _ hK => by
    rw [if_neg (by simp [Region.wanted, hg, yl ha hj hb, hc])]
    exact ⟨fun _ _ => trivial, hK _ _ (h.out _ (ha.put _ _))⟩⟩
theorem yu {a : Act} (ha : FM n f a) {j t : Nat} (hj : (ops[j]?).bind (·.dst) = some t) (hb : evn n f (.tmp t) = undef) : yielded ops a.tmps j = none := by
  have h1 := (ha.ev (.tmp t)).trans hb
  simp only [Act.eval] at h1
  unfold yielded
  rw [hj]
  simp only [Option.bind_some]
  cases h2 : a.tmps[t]? with
  | none => rfl
  | some v => simp [h2] at h1; rw [h1]; rfl
theorem sl_nu {j t : Nat} {c : Bool} (hg : o.guard = some (j, c)) (hj : (ops[j]?).bind (·.dst) = some t) (hb : evn n f (.tmp t) = undef) (h : SL r P n ops Q rest (updo f o.dst undef) w) : SL r P n ops Q (o :: rest) f w :=
  ⟨fun a ha => wpListIn_step fun _ hK => by
    rw [if_neg (by simp [Region.wanted, hg, yu ha hj hb])]
    exact ⟨fun _ _ => trivial, hK _ _ (h.out _ (ha.put _ _))⟩⟩
theorem sl_y (hg : o.guard = none) (h : OY P n o f w (SL r P n ops Q rest)) : SL r P n ops Q (o :: rest) f w :=
  ⟨fun a ha => wpListIn_plain hg fun _ hK => h.wpIn a ha _ _ fun a' _ w' ha' hs => hK a' w' (hs.out a' ha')⟩
/-! The same for a tail. -/
theorem tl_nil (h : Q .normal f w) : TL P n ops Q [] f w := ⟨fun _ ha => wpList_nil ⟨f, ha, h⟩⟩
theorem tl_op (hg : o.guard = none) (h : OK P n o f w (TL P n ops Q rest)) : TL P n ops Q (o :: rest) f w :=
  ⟨fun a ha => wpList_plain hg fun _ hK => h.wp a ha _ _ fun a' _ w' ha' hs => hK a' w' (hs.out a' ha')⟩
theorem tl_v {v : Value} (hg : o.guard = none) (hr : RV P n f w o v) (h : TL P n ops Q rest (updo f o.dst v) w) : TL P n ops Q (o :: rest) f w := tl_op hg (ok_v hr h)
theorem tl_g {j t : Nat} {b c : Bool} (hg : o.guard = some (j, c)) (hj : (ops[j]?).bind (·.dst) = some t) (hb : evn n f (.tmp t) = .bool b) (hc : b = c) (h : OK P n o f w (TL P n ops Q rest)) : TL P n ops Q (o :: rest) f w :=
  ⟨fun a ha => wpList_step fun _ hK => by
    rw [if_pos (by simp [Region.wanted, hg, yl ha hj hb, hc])]
    exact h.wp a ha _ _ fun a' _ w' ha' hs => hK a' w' (hs.out a' ha')⟩
theorem tl_vg {v : Value} {j t : Nat} {b c : Bool} (hg : o.guard = some (j, c)) (hj : (ops[j]?).bind (·.dst) = some t) (hb : evn n f (.tmp t) = .bool b) (hc : b = c) (hr : RV P n f w o v) (h : TL P n ops Q rest (updo f o.dst v) w) : TL P n ops Q (o :: rest) f w :=
  tl_g hg hj hb hc (ok_v hr h)
theorem tl_no {j t : Nat} {b c : Bool} (hg : o.guard = some (j, c)) (hj : (ops[j]?).bind (·.dst) = some t) (hb : evn n f (.tmp t) = .bool b) (hc : b = !c) (h : TL P n ops Q rest (updo f o.dst undef) w) : TL P n ops Q (o :: rest) f w :=
  ⟨fun a ha => wpList_step fun _ hK => by
    rw [if_neg (by simp [Region.wanted, hg, yl ha hj hb, hc])]
    exact hK _ _ (h.out _ (ha.put _ _))⟩
theorem tl_nu {j t : Nat} {c : Bool} (hg : o.guard = some (j, c)) (hj : (ops[j]?).bind (·.dst) = some t) (hb : evn n f (.tmp t) = undef) (h : TL P n ops Q rest (updo f o.dst undef) w) : TL P n ops Q (o :: rest) f w :=
  ⟨fun a ha => wpList_step fun _ hK => by
    rw [if_neg (by simp [Region.wanted, hg, yu ha hj hb])]
    exact hK _ _ (h.out _ (ha.put _ _))⟩
/-! A region that draws its order: operations that yield values, then a tail that keeps its order. -/
structure ST (P : Program) (n : Nat) (ops : Array Oper) (w : World) (K : Env → Prop) (l : List Oper) (f : Env) : Prop where
  out : ∀ a, FM n f a → wpStill P ops w (fun a => ∃ f, FM n f a ∧ K f) l a
variable {J : Env → Prop}
theorem st_nil (h : J f) : ST P n ops w J [] f := ⟨fun _ ha => wpStill_nil ⟨f, ha, h⟩⟩
theorem RV.still {v : Value} (hr : RV P n f w o v) {a : Act} (ha : FM n f a) {K : Act → Prop} (h : K (a.put o.dst v)) : o.still P a w K := by
  unfold Oper.still
  rw [show a.eval = evn n f from funext ha.ev, hr]
  exact ⟨rfl, h⟩
theorem st_v {v : Value} (hg : o.guard = none) (hr : RV P n f w o v) (h : ST P n ops w J rest (updo f o.dst v)) : ST P n ops w J (o :: rest) f :=
  ⟨fun a ha => wpStill_step fun K hK => by
    rw [if_pos (by simp [Region.wanted, hg])]
    exact hr.still ha (hK _ (h.out _ (ha.put _ _)))⟩
theorem st_vg {v : Value} {j t : Nat} {b c : Bool} (hg : o.guard = some (j, c)) (hj : (ops[j]?).bind (·.dst) = some t) (hb : evn n f (.tmp t) = .bool b) (hc : b = c) (hr : RV P n f w o v) (h : ST P n ops w J rest (updo f o.dst v)) : ST P n ops w J (o :: rest) f :=
  ⟨fun a ha => wpStill_step fun K hK => by
    rw [if_pos (by simp [Region.wanted, hg, yl ha hj hb, hc])]
    exact hr.still ha (hK _ (h.out _ (ha.put _ _)))⟩
theorem st_no {j t : Nat} {b c : Bool} (hg : o.guard = some (j, c)) (hj : (ops[j]?).bind (·.dst) = some t) (hb : evn n f (.tmp t) = .bool b) (hc : b = !c) (h : ST P n ops w J rest (updo f o.dst undef)) : ST P n ops w J (o :: rest) f :=
  ⟨fun a ha => wpStill_step fun K hK => by
    rw [if_neg (by simp [Region.wanted, hg, yl ha hj hb, hc])]
    exact hK _ (h.out _ (ha.put _ _))⟩
theorem st_nu {j t : Nat} {c : Bool} (hg : o.guard = some (j, c)) (hj : (ops[j]?).bind (·.dst) = some t) (hb : evn n f (.tmp t) = undef) (h : ST P n ops w J rest (updo f o.dst undef)) : ST P n ops w J (o :: rest) f :=
  ⟨fun a ha => wpStill_step fun K hK => by
    rw [if_neg (by simp [Region.wanted, hg, yu ha hj hb])]
    exact hK _ (h.out _ (ha.put _ _))⟩
theorem wpStill_mono {K K' : Act → Prop} (hk : ∀ a, K a → K' a) : ∀ (l : List Oper) (a : Act), wpStill P ops w K l a → wpStill P ops w K' l a
  | [], a, h => hk a h
  | o :: l, a, h => by
    unfold wpStill at h ⊢
    split
    · rename_i hw; rw [if_pos hw] at h; exact Oper.still_mono (fun a => wpStill_mono hk l a) h
    · rename_i hw; rw [if_neg hw] at h; exact wpStill_mono hk l _ h
theorem cw_still {id : Nat} {l : List Oper} (hm : P.follows .mixedOrders = true) (hB : Region.lexB .any l.toArray = true)
    (h : ∀ wd : World, wd = w.drew → ST P n l.toArray wd (fun f => Q .normal f wd) l f) : CW none P n (.region id l.toArray true) Q f w :=
  ⟨fun a ha => wpIn_wide.2 (wp_region_still_lit hm hB (wpStill_mono (fun _ h => h) _ _ ((h _ rfl).out a ha)))⟩
theorem cw_tail (m : Nat) {id : Nat} {l : List Oper} (hm : P.follows .mixedOrders = true) (hB : Region.lexTailB .any l.toArray m = true)
    (h : ∀ wd : World, wd = w.drew → ST P n l.toArray wd (fun f => TL P n l.toArray Q (l.drop m) f wd) (l.take m) f) : CW none P n (.region id l.toArray true) Q f w :=
  ⟨fun a ha => wpIn_wide.2 (wp_region_still_tail m hm hB (wpStill_mono (fun a ⟨_, hf, hs⟩ => hs.out a hf) _ _ ((h _ rfl).out a ha)))⟩
end
end Go.Proofs.Ytchjcjocihckpaa.G

/- What a call changes; numbers, texts and pointers. -/
namespace Go.Proofs.Ytchjcjocihckpaa.G
open Go Go.RowKit
/-! What a call has changed: the blocks in S alone, and new ones. -/
structure Chg (S : Nat → Prop) (w w' : World) : Prop where
  os : w'.os = w.os
  tape : w'.tape = w.tape
  output : w'.output = w.output
  size : w.heap.size ≤ w'.heap.size
  blk : ∀ b, b < w.heap.size → ¬ S b → w'.heap[b]? = w.heap[b]?
abbrev Ext (w w' : World) : Prop := Chg (fun _ => False) w w'
theorem lt_of_blk {w : World} {b : Nat} {o : Obj} (h : w.heap[b]? = some o) : b < w.heap.size := (Array.getElem?_eq_some_iff.1 h).1
theorem Chg.refl {S : Nat → Prop} (w : World) : Chg S w w := ⟨rfl, rfl, rfl, Nat.le_refl _, fun _ _ _ => rfl⟩
theorem Chg.trans {S S' S'' : Nat → Prop} {w w1 w2 : World} (h : Chg S w w1) (k : Chg S' w1 w2) (h1 : ∀ b, b < w.heap.size → S b → S'' b) (h2 : ∀ b, b < w.heap.size → S' b → S'' b) : Chg S'' w w2 :=
  ⟨k.os.trans h.os, k.tape.trans h.tape, k.output.trans h.output, Nat.le_trans h.size k.size, fun b hb hn =>
    (k.blk b (Nat.lt_of_lt_of_le hb h.size) (fun e => hn (h2 b hb e))).trans (h.blk b hb (fun e => hn (h1 b hb e)))⟩
theorem Chg.mono {S S' : Nat → Prop} {w w1 : World} (h : Chg S w w1) (hs : ∀ b, b < w.heap.size → S b → S' b) : Chg S' w w1 :=
  ⟨h.os, h.tape, h.output, h.size, fun b hb hn => h.blk b hb (fun e => hn (hs b hb e))⟩
theorem Chg.then {S : Nat → Prop} {w w1 w2 : World} (h : Chg S w w1) (k : Chg S w1 w2) : Chg S w w2 := h.trans k (fun _ _ h => h) (fun _ _ h => h)
theorem Chg.ext {S : Nat → Prop} {w w1 w2 : World} (h : Chg S w w1) (k : Ext w1 w2) : Chg S w w2 := h.trans k (fun _ _ h => h) (fun _ _ h => h.elim)
theorem Ext.chg {S : Nat → Prop} {w w1 : World} (h : Ext w w1) : Chg S w w1 := h.mono fun _ _ h => h.elim
theorem Ext.tr {w w1 w2 : World} (h : Ext w w1) (k : Ext w1 w2) : Ext w w2 := h.ext k
theorem Chg.get {S : Nat → Prop} {w w1 : World} (h : Chg S w w1) {b : Nat} {o : Obj} (hb : w.heap[b]? = some o) (hn : ¬ S b) : w1.heap[b]? = some o := (h.blk b (lt_of_blk hb) hn).trans hb
theorem Ext.get {w w1 : World} (h : Ext w w1) {b : Nat} {o : Obj} (hb : w.heap[b]? = some o) : w1.heap[b]? = some o := Chg.get h hb id
theorem Chg.cell {S : Nat → Prop} {w w1 : World} (h : Chg S w w1) {a : Addr} {v : Value} (hc : w.cell? a = some v) (hn : ¬ S a.block) : w1.cell? a = some v := by
  have : w1.heap[a.block]? = w.heap[a.block]? := h.blk _ (World.block_lt_of_cell? w a hc) hn
  simpa [World.cell?, this] using hc
theorem Ext.cell {w w1 : World} (h : Ext w w1) {a : Addr} {v : Value} (hc : w.cell? a = some v) : w1.cell? a = some v := Chg.cell h hc id
theorem Ext.drew (w : World) : Ext w w.drew := ⟨rfl, rfl, rfl, Nat.le_refl _, fun _ _ _ => rfl⟩
theorem Ext.alloc (w : World) (o : Obj) : Ext w (w.alloc o) := ⟨rfl, rfl, rfl, by rw [World.size_alloc]; omega, fun b hb _ => by
  show (w.heap.push o)[b]? = w.heap[b]?
  rw [Array.getElem?_push, if_neg (by omega)]⟩
theorem Chg.setCell (w : World) (a : Addr) (v : Value) : Chg (fun b => b = a.block) w (w.setCell a v) :=
  ⟨rfl, rfl, rfl, by simp [World.setCell], fun b _ hn => by simp [World.setCell, Array.getElem?_modify]; intro e; exact absurd e.symm hn⟩
theorem Chg.of_grown {w w' : World} {row : Option Nat} (h : w.grownBy w' row) : Chg (fun b => some b = row) w w' := ⟨h.os, h.tape, h.output, h.size, fun b hb hn => h.block b hb hn⟩
theorem Chg.of_below {w w' : World} (h : Below w.heap.size w w') : Ext w w' := ⟨h.os, h.tape, h.output, h.size, fun b hb _ => h.block b hb⟩
theorem Ext.below {w w' : World} (h : Ext w w') : Below w.heap.size w w' := ⟨h.os, h.tape, h.output, h.size, fun b hb => h.blk b hb id⟩
/-- A block that is new. -/
structure New (w : World) (b : Nat) (o : Obj) (w1 : World) : Prop where
  ext : Ext w w1
  fresh : w.heap.size ≤ b
  here : w1.heap[b]? = some o
  dr : w.drawn ≤ w1.drawn
theorem New.alloc (w : World) (o : Obj) : New w w.heap.size o (w.alloc o) := ⟨Ext.alloc w o, Nat.le_refl _, by show (w.heap.push o)[w.heap.size]? = some o; simp, Nat.le_refl _⟩
theorem drew_le {w wd : World} (h : wd = w.drew) : w.drawn ≤ wd.drawn := by subst h; exact Nat.le_succ _
/-- A block of one's own, hidden. -/
structure Priv (w : World) (b : Nat) (w1 : World) : Prop where
  ext : Ext w w1
  fresh : w.heap.size ≤ b
  lt : b < w1.heap.size
theorem New.priv {w w1 : World} {b : Nat} {o : Obj} (h : New w b o w1) : Priv w b w1 := ⟨h.ext, h.fresh, lt_of_blk h.here⟩
theorem blk_set {w : World} {b : Nat} {cs : Array Value} {t : TypeId} {fr : Nat × Nat} (h : w.heap[b]? = some (.cells cs t fr)) (i : Nat) (v : Value) : (w.setCell ⟨b, i, none⟩ v).heap[b]? = some (.cells (cs.setIfInBounds i v) t fr) := by
  simp [World.setCell, Array.getElem?_modify, h]
theorem cell_blk {w : World} {b : Nat} {cs : Array Value} {t : TypeId} {fr : Nat × Nat} (h : w.heap[b]? = some (.cells cs t fr)) {i : Nat} {v : Value} (hi : cs[i]? = some v) : w.cell? ⟨b, i, none⟩ = some v := by
  simp [World.cell?, h, hi]
theorem frz_blk {w : World} {b : Nat} {cs : Array Value} {t : TypeId} (h : w.heap[b]? = some (.cells cs t (0, 0))) (i : Nat) : w.frozen? ⟨b, i, none⟩ = false := by
  simp [World.frozen?, h]
/-- A slice. -/
structure Sl where
  b : Option Addr
  n : Nat
  c : Nat
  deriving Inhabited
@[reducible] def Sl.v (s : Sl) : Value := .slice s.b s.n s.c
section
variable {P : Program} {n : Nat} {f : Env} {w : World} {K : Env → World → Prop}
variable {ty : TypeId} {pos : String} {af : Array Edge} {d : Nat} {gd : Option (Nat × Bool)}
theorem r_mv {x : Operand} {v : Value} (hx : evn n f x = v) : RV P n f w ⟨some d, .move x, ty, pos, af, gd⟩ v := by simp [RV, execOp, hx, go_sem]
theorem r_as {x : Operand} {v : Value} (hx : evn n f x = v) : RV P n f w ⟨some d, .assign x, ty, pos, af, gd⟩ v := by simp [RV, execOp, hx, go_sem]
theorem r_pt {c x y : Operand} {b : Bool} {v : Value} (hc : evn n f c = .bool b) (hb : b = true) (hx : evn n f x = v) : RV P n f w ⟨some d, .pick c x y, ty, pos, af, gd⟩ v := by simp [RV, execOp, hc, hb, hx, go_sem]
theorem r_pf {c x y : Operand} {b : Bool} {v : Value} (hc : evn n f c = .bool b) (hb : b = false) (hx : evn n f y = v) : RV P n f w ⟨some d, .pick c x y, ty, pos, af, gd⟩ v := by simp [RV, execOp, hc, hb, hx, go_sem]
theorem r_not {x : Operand} {t : TypeId} {b : Bool} (hx : evn n f x = .bool b) : RV P n f w ⟨some d, .unOp .not t x, ty, pos, af, gd⟩ (.bool !b) := by simp [RV, execOp, hx, go_sem, Op.unary]
theorem r_neg {x : Operand} {t : TypeId} {k : IntKind} {i : Int} (hx : evn n f x = .int k i) : RV P n f w ⟨some d, .unOp .neg t x, ty, pos, af, gd⟩ (.int k (k.wrap (0 - i))) := by simp [RV, execOp, hx, go_sem, Op.unary, Op.intArith]
section
variable {x y : Operand} {t yt : TypeId} {k : IntKind} {i j : Int}
theorem r_add {z : Int} (hx : evn n f x = .int k i) (hy : evn n f y = .int k j) (hz : z = k.wrap (i + j)) : RV P n f w ⟨some d, .binOp .add t x y yt, ty, pos, af, gd⟩ (.int k z) := by subst hz; simp [RV, execOp, hx, hy, go_sem, eqGuard, binOp, Op.intArith]
theorem r_sub {z : Int} (hx : evn n f x = .int k i) (hy : evn n f y = .int k j) (hz : z = k.wrap (i - j)) : RV P n f w ⟨some d, .binOp .sub t x y yt, ty, pos, af, gd⟩ (.int k z) := by subst hz; simp [RV, execOp, hx, hy, go_sem, eqGuard, binOp, Op.intArith]
theorem r_mul {z : Int} (hx : evn n f x = .int k i) (hy : evn n f y = .int k j) (hz : z = k.wrap (i * j)) : RV P n f w ⟨some d, .binOp .mul t x y yt, ty, pos, af, gd⟩ (.int k z) := by subst hz; simp [RV, execOp, hx, hy, go_sem, eqGuard, binOp, Op.intArith]
theorem r_lss (hx : evn n f x = .int k i) (hy : evn n f y = .int k j) : RV P n f w ⟨some d, .binOp .lss t x y yt, ty, pos, af, gd⟩ (.bool (decide (i < j))) := by simp [RV, execOp, hx, hy, go_sem, eqGuard, binOp, Op.intCmp]
theorem r_leq (hx : evn n f x = .int k i) (hy : evn n f y = .int k j) : RV P n f w ⟨some d, .binOp .leq t x y yt, ty, pos, af, gd⟩ (.bool (decide (i ≤ j))) := by simp [RV, execOp, hx, hy, go_sem, eqGuard, binOp, Op.intCmp]
theorem r_gtr (hx : evn n f x = .int k i) (hy : evn n f y = .int k j) : RV P n f w ⟨some d, .binOp .gtr t x y yt, ty, pos, af, gd⟩ (.bool (decide (j < i))) := by simp [RV, execOp, hx, hy, go_sem, eqGuard, binOp, Op.intCmp]
theorem r_geq (hx : evn n f x = .int k i) (hy : evn n f y = .int k j) : RV P n f w ⟨some d, .binOp .geq t x y yt, ty, pos, af, gd⟩ (.bool (decide (j ≤ i))) := by simp [RV, execOp, hx, hy, go_sem, eqGuard, binOp, Op.intCmp]
theorem beq_dec {α : Type} [BEq α] [LawfulBEq α] [DecidableEq α] (a b : α) : (a == b) = decide (a = b) := by
  by_cases h : a = b <;> simp [h]
theorem r_eql (hx : evn n f x = .int k i) (hy : evn n f y = .int k j) : RV P n f w ⟨some d, .binOp .eql t x y yt, ty, pos, af, gd⟩ (.bool (decide (i = j))) := by
  simp [RV, execOp, hx, hy, go_sem, eqGuard, binOp, Op.intCmp]; rw [beq_dec]
theorem r_neq (hx : evn n f x = .int k i) (hy : evn n f y = .int k j) : RV P n f w ⟨some d, .binOp .neq t x y yt, ty, pos, af, gd⟩ (.bool (decide (i ≠ j))) := by
  simp [RV, execOp, hx, hy, go_sem, eqGuard, binOp, Op.intCmp, bne]; rw [beq_dec]
end
/-! Text. -/
theorem toList_data (s : ByteArray) : s.toList = s.data.toList := ByteArray.toList_eq s
/-- Is a text ahead of another? -/
def bless (a b : ByteArray) : Bool := Op.bytesLess a.data.toList b.data.toList
section
variable {x y : Operand} {t yt : TypeId} {a b : ByteArray}
theorem str_beq (a b : ByteArray) : (a.toList == b.toList) = decide (a = b) := by
  rw [beq_dec]
  congr 1
  rw [toList_data, toList_data]
  exact propext ⟨fun h => by cases a; cases b; simp at h; simp [h], fun h => by rw [h]⟩
theorem s_eql (hx : evn n f x = .string a) (hy : evn n f y = .string b) : RV P n f w ⟨some d, .binOp .eql t x y yt, ty, pos, af, gd⟩ (.bool (decide (a = b))) := by
  rw [← str_beq]; simp [RV, execOp, hx, hy, go_sem, eqGuard, binOp, Op.stringOp]
theorem s_neq (hx : evn n f x = .string a) (hy : evn n f y = .string b) : RV P n f w ⟨some d, .binOp .neq t x y yt, ty, pos, af, gd⟩ (.bool (decide (a ≠ b))) := by
  have := str_beq a b
  simp only [ne_eq, decide_not, ← this]; simp [RV, execOp, hx, hy, go_sem, eqGuard, binOp, Op.stringOp]
end
section
variable {x y : Operand} {t yt : TypeId} {a b : ByteArray}
theorem s_lss (hx : evn n f x = .string a) (hy : evn n f y = .string b) : RV P n f w ⟨some d, .binOp .lss t x y yt, ty, pos, af, gd⟩ (.bool (bless a b)) := by
  simp only [bless, ← toList_data]; simp [RV, execOp, hx, hy, go_sem, eqGuard, binOp, Op.stringOp]
theorem s_leq (hx : evn n f x = .string a) (hy : evn n f y = .string b) : RV P n f w ⟨some d, .binOp .leq t x y yt, ty, pos, af, gd⟩ (.bool (bless a b || decide (a = b))) := by
  rw [← str_beq]; simp only [bless, ← toList_data]; simp [RV, execOp, hx, hy, go_sem, eqGuard, binOp, Op.stringOp]
theorem s_cat (hx : evn n f x = .string a) (hy : evn n f y = .string b) (hs : a.size + b.size ≤ 9223372036854775807) : RV P n f w ⟨some d, .binOp .add t x y yt, ty, pos, af, gd⟩ (.string (a ++ b)) := by
  have h : ¬ (((a.size + b.size : Nat) : Int) > IntKind.i64.max) := by
    have : IntKind.i64.max = 9223372036854775807 := by decide
    rw [this]; omega
  unfold RV
  simp only [execOp, hx, hy, eqGuard, binOp, Op.stringOp, if_neg h]
  simp
end
theorem eq_bool (m : Nat) {t : TypeId} (b c : Bool) (ht : P.underlying t = some .bool) : (Op.equalIn (m + 1) t (.bool b) (.bool c)).run P w = .ok (b == c) w := by simp [Op.equalIn, run_underlying ht]
theorem eq_ptr (m : Nat) {t e : TypeId} (p : Option Addr) (ht : P.underlying t = some (.pointer e)) : (Op.equalIn (m + 1) t (.pointer p) (.pointer none)).run P w = .ok p.isNone w := by cases p <;> simp [Op.equalIn, run_underlying ht]
theorem eq_map (m : Nat) {t k e : TypeId} (p : Option Nat) (ht : P.underlying t = some (.map k e)) : (Op.equalIn (m + 1) t (.map p) (.map none)).run P w = .ok p.isNone w := by cases p <;> simp [Op.equalIn, run_underlying ht]
theorem isNone_dec {α : Type} [DecidableEq α] (p : Option α) : p.isNone = decide (p = none) := by cases p <;> simp
section
variable {x y : Operand} {t yt : TypeId}
theorem b_eql {b c : Bool} (hx : evn n f x = .bool b) (hy : evn n f y = .bool c) (ht : P.underlying t = some .bool) : RV P n f w ⟨some d, .binOp .eql t x y yt, ty, pos, af, gd⟩ (.bool (decide (b = c))) := by
  rw [← beq_dec]; unfold RV; simp only [execOp, hx, hy, eqGuard, binOp, Op.equal, Op.maxDepth]; simp [eq_bool 9999 b c ht]
theorem b_neq {b c : Bool} (hx : evn n f x = .bool b) (hy : evn n f y = .bool c) (ht : P.underlying t = some .bool) : RV P n f w ⟨some d, .binOp .neq t x y yt, ty, pos, af, gd⟩ (.bool (decide (b ≠ c))) := by
  simp only [ne_eq, decide_not, ← beq_dec]; unfold RV; simp only [execOp, hx, hy, eqGuard, binOp, Op.equal, Op.maxDepth]; simp [eq_bool 9999 b c ht]
theorem p_eqn {p : Option Addr} {e : TypeId} (hx : evn n f x = .pointer p) (hy : evn n f y = .pointer none) (ht : P.underlying t = some (.pointer e)) : RV P n f w ⟨some d, .binOp .eql t x y yt, ty, pos, af, gd⟩ (.bool (decide (p = none))) := by
  rw [← isNone_dec]; unfold RV; simp only [execOp, hx, hy, eqGuard, binOp, Op.equal, Op.maxDepth]; simp [eq_ptr 9999 p ht]
theorem p_nen {p : Option Addr} {e : TypeId} (hx : evn n f x = .pointer p) (hy : evn n f y = .pointer none) (ht : P.underlying t = some (.pointer e)) : RV P n f w ⟨some d, .binOp .neq t x y yt, ty, pos, af, gd⟩ (.bool (decide (p ≠ none))) := by
  simp only [ne_eq, decide_not, ← isNone_dec]; unfold RV; simp only [execOp, hx, hy, eqGuard, binOp, Op.equal, Op.maxDepth]; simp [eq_ptr 9999 p ht]
theorem m_eqn {p : Option Nat} {k e : TypeId} (hx : evn n f x = .map p) (hy : evn n f y = .map none) (ht : P.underlying t = some (.map k e)) : RV P n f w ⟨some d, .binOp .eql t x y yt, ty, pos, af, gd⟩ (.bool (decide (p = none))) := by
  rw [← isNone_dec]; unfold RV; simp only [execOp, hx, hy, eqGuard, binOp, Op.equal, Op.maxDepth]; simp [eq_map 9999 p ht]
end
theorem r_nc {x : Operand} {a : Addr} (hx : evn n f x = .pointer (some a)) : RV P n f w ⟨some d, .nilCheck x, ty, pos, af, gd⟩ (.pointer (some a)) := by simp [RV, execOp, hx, go_sem]
theorem r_ix {x y : Operand} {t : TypeId} {s : ByteArray} {k : IntKind} {j : Nat} (hx : evn n f x = .string s) (hy : evn n f y = .int k (j : Nat)) (ht : P.underlying t = some .string) (hj : j < s.size) :
    RV P n f w ⟨some d, .index t x y, ty, pos, af, gd⟩ (.int .u8 ((s.data.toList.getD j 0).toNat : Nat)) := by
  have e : s[j]? = some s[j] := getElem?_pos s j hj
  have e2 : s.data.toList.getD j 0 = s[j] := by
    have : s.data.toList[j]? = some s[j] := by
      rw [Array.getElem?_toList]; exact Array.getElem?_eq_some_iff.2 ⟨hj, rfl⟩
    simp [this]
  unfold RV
  rw [e2]
  simp only [execOp, hx, hy, Instr.index, asIntOf]
  simp [go_sem, underlying, ht, e]
end
end Go.Proofs.Ytchjcjocihckpaa.G

/- Cells, rows, addresses, loads, stores, calls and results. -/
namespace Go.Proofs.Ytchjcjocihckpaa.G
open Go Go.RowKit
/-- What is known of a type: its zero value, its cells, its bytes. -/
def TI (P : Program) (t : TypeId) (z : Value) (sz by' : Nat) : Prop := (P.info? t).map (fun i => (i.zero, i.size, i.bytes)) = some (some z, sz, by')
theorem TI.get {P : Program} {t : TypeId} {z : Value} {sz by' : Nat} (h : TI P t z sz by') : ∃ i, P.info? t = some i ∧ i.zero = some z ∧ i.size = sz ∧ i.bytes = by' := by
  unfold TI at h
  cases hi : P.info? t with
  | none => rw [hi] at h; cases h
  | some i => rw [hi] at h; simp at h; exact ⟨i, rfl, h.1, h.2.1, h.2.2⟩
/-- The cells of a row, from a place on. -/
def Cells (w : World) (b : Nat) : Nat → List Value → Prop
  | _, [] => True
  | o, v :: vs => w.cell? ⟨b, o, none⟩ = some v ∧ Cells w b (o + 1) vs
theorem Cells.n {w : World} {b o : Nat} : Cells w b o [] := trivial
theorem Cells.c {w : World} {b o : Nat} {v : Value} {vs : List Value} (h : w.cell? ⟨b, o, none⟩ = some v) (t : Cells w b (o + 1) vs) : Cells w b o (v :: vs) := ⟨h, t⟩
theorem Cells.at {w : World} {b : Nat} : ∀ {vs : List Value} {o : Nat}, Cells w b o vs → ∀ j v, vs[j]? = some v → w.cell? ⟨b, o + j, none⟩ = some v
  | [], _, _, j, v, h => by simp at h
  | u :: us, o, hc, 0, v, h => by simp at h; subst h; exact hc.1
  | u :: us, o, hc, j + 1, v, h => by
    have := Cells.at hc.2 j v (by simpa using h)
    rwa [show o + 1 + j = o + (j + 1) by omega] at this
theorem Cells.of {w : World} {b : Nat} : ∀ (vs : List Value) (o : Nat), (∀ j v, vs[j]? = some v → w.cell? ⟨b, o + j, none⟩ = some v) → Cells w b o vs
  | [], _, _ => trivial
  | u :: us, o, h => ⟨h 0 u (by simp), Cells.of us (o + 1) fun j v hj => by
    have := h (j + 1) v (by simpa using hj)
    rwa [show o + (j + 1) = o + 1 + j by omega] at this⟩
theorem Cells.chg {S : Nat → Prop} {w w1 : World} (h : Chg S w w1) {b : Nat} (hn : ¬ S b) : ∀ {vs : List Value} {o : Nat}, Cells w b o vs → Cells w1 b o vs
  | [], _, _ => trivial
  | _ :: _, _, hc => ⟨h.cell hc.1 hn, Cells.chg h hn hc.2⟩
theorem Cells.ext {w w1 : World} (h : Ext w w1) {b : Nat} {vs : List Value} {o : Nat} (hc : Cells w b o vs) : Cells w1 b o vs := Cells.chg h id hc
theorem Cells.blk {w : World} {b : Nat} {cs : Array Value} {t : TypeId} {fr : Nat × Nat} (h : w.heap[b]? = some (.cells cs t fr)) (vs : List Value) (o : Nat) (hv : ∀ j v, vs[j]? = some v → cs[o + j]? = some v) : Cells w b o vs :=
  Cells.of vs o fun j v hj => cell_blk h (hv j v hj)
theorem add_at (b o j : Nat) : (⟨b, o, none⟩ : Addr).add j = ⟨b, o + j, none⟩ := by
  unfold Addr.add; split
  · rename_i h; simp [h]
  · rfl
/-- Cells that may be written. -/
def Wr (w : World) (b o m : Nat) : Prop := ∃ cs t, w.heap[b]? = some (.cells cs t (0, 0)) ∧ o + m ≤ cs.size
def setRow (cs : Array Value) : Nat → List Value → Array Value
  | _, [] => cs
  | i, v :: vs => setRow (cs.setIfInBounds i v) (i + 1) vs
def setCells (w : World) (b : Nat) : Nat → List Value → World
  | _, [] => w
  | i, v :: vs => setCells (w.setCell ⟨b, i, none⟩ v) b (i + 1) vs
theorem setRow_size : ∀ (vs : List Value) (cs : Array Value) (i : Nat), (setRow cs i vs).size = cs.size
  | [], _, _ => rfl
  | v :: vs, cs, i => by simp [setRow, setRow_size vs]
theorem blk_sets {b : Nat} {t : TypeId} {fr : Nat × Nat} : ∀ (vs : List Value) {w : World} {cs : Array Value} (i : Nat), w.heap[b]? = some (.cells cs t fr) → (setCells w b i vs).heap[b]? = some (.cells (setRow cs i vs) t fr)
  | [], _, _, _, h => h
  | v :: vs, _, _, i, h => blk_sets vs (i + 1) (blk_set h i v)
theorem chg_sets (b : Nat) : ∀ (vs : List Value) (w : World) (i : Nat), Chg (fun c => c = b) w (setCells w b i vs)
  | [], w, _ => Chg.refl w
  | v :: vs, w, i => (Chg.setCell w ⟨b, i, none⟩ v).then (chg_sets b vs _ (i + 1))
theorem run_stores {P : Program} (b o : Nat) (t : TypeId) : ∀ (vs : List Value) (i : Nat) (cs : Array Value) (w : World), w.heap[b]? = some (.cells cs t (0, 0)) → o + i + vs.length ≤ cs.size → (∀ v ∈ vs, v.oneCell' = true) →
    (storeCells ⟨b, o, none⟩ vs i).run P w = .ok () (setCells w b (o + i) vs)
  | [], i, cs, w, _, _, _ => by simp [storeCells, setCells]
  | v :: vs, i, cs, w, h, hl, h1 => by
    simp only [List.length_cons] at hl
    have hi : o + i < cs.size := by omega
    have hc : w.cell? ⟨b, o + i, none⟩ = some cs[o + i] := cell_blk h (by simp [hi])
    have hf := frz_blk h (o + i)
    have hr : (store ((⟨b, o, none⟩ : Addr).add i) v).run P w = .ok () (w.setCell ⟨b, o + i, none⟩ v) := by
      rw [add_at]
      have := run_store P w ⟨b, o + i, none⟩ v .plain (h1 v (by simp))
      rw [this]; simp [hc, hf]
    simp only [storeCells, Sem.run_bind, hr, Result.andThen_ok]
    rw [run_stores b o t vs (i + 1) _ _ (blk_set h (o + i) v) (by simp; omega) (fun u hu => h1 u (by simp [hu]))]
    rfl
section
variable {P : Program} {n : Nat} {f : Env} {w : World} {K : Env → World → Prop}
variable {ty : TypeId} {pos : String} {af : Array Edge} {d : Nat} {gd : Option (Nat × Bool)}
def aggT : TypeDesc → Bool
  | .struct _ | .array _ _ => true
  | _ => false
theorem run_isAgg {t : TypeId} {u : TypeDesc} (h : P.underlying t = some u) : (isAgg t).run P w = .ok (aggT u) w := by
  unfold isAgg
  simp only [Sem.run_bind, run_underlying h, Result.andThen_ok]
  cases u <;> rfl
theorem r_fa {x : Operand} {b o o' : Nat} {s fl ft sz by' : Nat} {z : Value} {fs : Array Field} {fd : Field} (hs : P.underlying s = some (.struct fs)) (hf : fs[fl]? = some fd) (hft : fd.type = ft) (hi : TI P ft z sz by') (h0 : (sz == 0) = false) (hx : evn n f x = .pointer (some ⟨b, o, none⟩)) (ho : o + fd.offset = o') :
    RV P n f w ⟨some d, .fieldAddr s x fl, ty, pos, af, gd⟩ (.pointer (some ⟨b, o', none⟩)) := by
  subst ho; subst hft
  obtain ⟨i, hi, _, hz, _⟩ := hi.get
  have h0' : i.size ≠ 0 := by rw [hz]; simpa using h0
  unfold RV
  simp only [execOp, hx, Instr.fieldAt, Instr.sureAddr, fieldPlace]
  simp [run_underlying hs, hf, sizeOf, typeInfo, hi, h0', add_at]
theorem r_ia {x y : Operand} {t e : TypeId} {s : Sl} {k : IntKind} {j b o o' sz by' : Nat} {z : Value} (ht : P.underlying t = some (.slice e)) (hi : TI P e z sz by') (hx : evn n f x = s.v) (hy : evn n f y = .int k (j : Nat)) (hj : j < s.n) (hb : s.b = some ⟨b, o, none⟩) (ho : o + j * sz = o') :
    RV P n f w ⟨some d, .indexAddr t x y, ty, pos, af, gd⟩ (.pointer (some ⟨b, o', none⟩)) := by
  subst ho
  obtain ⟨i, hi, _, hz, _⟩ := hi.get
  unfold RV
  simp only [execOp, hx, hy, Instr.indexAt, Sl.v, asIntOf, hb]
  simp [run_underlying ht, sizeOf, typeInfo, hi, hz, hj, add_at]
theorem r_ld {x : Operand} {t : TypeId} {u : TypeDesc} {a : Addr} {v : Value} (hu : P.underlying t = some u) (ha : aggT u = false) (hx : evn n f x = .pointer (some a)) (hc : w.cell? a = some v) : RV P n f w ⟨some d, .load t x, ty, pos, af, gd⟩ v := by
  unfold RV
  simp only [execOp, hx, Instr.loadAt, Instr.sureAddr, loadVar]
  simp [run_isAgg hu, ha, hc]
theorem r_lda {x : Operand} {t : TypeId} {u : TypeDesc} {b o sz by' : Nat} {z : Value} {vs : List Value} (hu : P.underlying t = some u) (ha : aggT u = true) (hi : TI P t z sz by') (hx : evn n f x = .pointer (some ⟨b, o, none⟩)) (hl : vs.length = sz) (hc : Cells w b o vs) :
    RV P n f w ⟨some d, .load t x, ty, pos, af, gd⟩ (.agg vs.toArray) := by
  obtain ⟨i, hi, _, hs, _⟩ := hi.get
  have hr : (loadCells ⟨b, o, none⟩ vs.length).run P w = .ok vs.toArray w := run_loadCells_list w ⟨b, o, none⟩ vs fun j v hj => by rw [add_at]; exact hc.at j v hj
  unfold RV
  simp only [execOp, hx, Instr.loadAt, Instr.sureAddr, loadVar]
  simp [run_isAgg hu, ha, sizeOf, typeInfo, hi, hs, ← hl, hr]
theorem ok_st {x y : Operand} {t : TypeId} {b o sz by' : Nat} {z v : Value} {vs : List Value} (hi : TI P t z sz by') (hx : evn n f x = .pointer (some ⟨b, o, none⟩)) (hy : evn n f y = v) (hv : v.cells = vs.toArray) (hl : vs.length = sz) (h1 : vs.all (·.oneCell') = true) (hw : Wr w b o sz)
    (h : ∀ w1, w1 = setCells w b o vs → K f w1) : OK P n ⟨none, .store t x y, ty, pos, af, gd⟩ f w K := by
  obtain ⟨i, hi, _, hs, _⟩ := hi.get
  obtain ⟨cs, u, hb, hsz⟩ := hw
  have hr := run_stores (P := P) b o u vs 0 cs w hb (by omega) (fun v hv => by simpa using List.all_eq_true.1 h1 v hv)
  refine ok_skip (w' := setCells w b o vs) ?_ (h _ rfl)
  simp only [execOp, hx, hy, Instr.storeAt, Instr.sureAddr, storeVar]
  simp [sizeOf, typeInfo, hi, hs, hv, hl]
  simp [show (storeCells ⟨b, o, none⟩ vs).run P w = .ok () (setCells w b o vs) by simpa using hr]
theorem ok_al {t : TypeId} {sz by' : Nat} {z : Value} {cs : Array Value} (hi : TI P t z sz by') (hz : z.cells = cs) (h : ∀ b w1, New w b (.cells cs t (0, 0)) w1 → K (upd f d (.pointer (some ⟨b, 0, none⟩))) w1) : OK P n ⟨some d, .alloc t, ty, pos, af, gd⟩ f w K := by
  obtain ⟨i, hi, hz', _, _⟩ := hi.get
  refine ok_run (v := .pointer (some ⟨w.heap.size, 0, none⟩)) (w' := w.alloc (.cells cs t (0, 0))) ?_ (h _ _ (New.alloc w _))
  simp only [execOp, Instr.alloc]
  simp [zeroValue, typeInfo, hi, hz', newVar, newRow, hz]
theorem ok_bx {x : Operand} {t : TypeId} {v : Value} {cs : Array Value} (hx : evn n f x = v) (hv : v.cells = cs) (h : ∀ b w1, New w b (.cells cs t (0, 0)) w1 → K (upd f d (.pointer (some ⟨b, 0, none⟩))) w1) : OK P n ⟨some d, .box t x, ty, pos, af, gd⟩ f w K := by
  refine ok_run (v := .pointer (some ⟨w.heap.size, 0, none⟩)) (w' := w.alloc (.cells cs t (0, 0))) ?_ (h _ _ (New.alloc w _))
  simp only [execOp, hx, Instr.box]
  simp [newVar, newRow, hv]
theorem r_ex {x : Operand} {ix : Nat} {vs : Array Value} {v : Value} (hx : evn n f x = .tuple vs) (hv : vs[ix]? = some v) : RV P n f w ⟨some d, .extract x ix, ty, pos, af, gd⟩ v := by
  unfold RV
  simp only [execOp, hx, Instr.extract, hv]
  rfl
theorem r_ci {x : Operand} {s t : TypeId} {k j : IntKind} {i z : Int} {u : TypeDesc} (hx : evn n f x = .int j i) (hs : P.underlying s = some u) (ht : P.underlying t = some (.int k)) (hz : z = k.wrap i) : RV P n f w ⟨some d, .convert s t x, ty, pos, af, gd⟩ (.int k z) := by
  subst hz
  unfold RV
  simp only [execOp, hx, convert]
  simp [run_underlying ht, run_underlying hs, Conv.intToInt]
theorem r_len_s {x : Operand} {t : TypeId} {ats : Array TypeId} {s : ByteArray} (hx : evn n f x = .string s) (ha : ats[0]? = some t) (ht : P.underlying t = some .string) : RV P n f w ⟨some d, .call { callee := .builtin .len, args := #[x], argTypes := ats }, ty, pos, af, gd⟩ (.int .i64 (s.size : Nat)) := by
  unfold RV
  simp [execOp, hx, resolve, invoke, builtin, Builtin.len_, ha, run_underlying ht, goInt]
theorem r_len_l {x : Operand} {t e : TypeId} {ats : Array TypeId} {s : Sl} (hx : evn n f x = s.v) (ha : ats[0]? = some t) (ht : P.underlying t = some (.slice e)) : RV P n f w ⟨some d, .call { callee := .builtin .len, args := #[x], argTypes := ats }, ty, pos, af, gd⟩ (.int .i64 (s.n : Nat)) := by
  unfold RV
  simp [execOp, hx, resolve, invoke, builtin, Builtin.len_, ha, run_underlying ht, goInt, Sl.v]
/-- A function that has a body of its own. -/
def Cal (P : Program) (k : FuncId) : Prop := ∃ fn, P.funcs[k]? = some fn ∧ (fn.name == "runtime.NumGoroutine") = false ∧ fn.body.isNone = false
theorem ok_call {k : FuncId} {xs : List Operand} {ats : Array TypeId} {args : List Value} (hk : Cal P k) (hx : xs.map (evn n f) = args)
    (h : Calls P k args.toArray w fun e w' => ∃ v, e = .returned v ∧ K (upd f d v) w') : OK P n ⟨some d, .call { callee := .value (.func k), args := xs.toArray, argTypes := ats }, ty, pos, af, gd⟩ f w K := by
  obtain ⟨fn, hf, hn, hb⟩ := hk
  have hn' : ¬ fn.name = "runtime.NumGoroutine" := by simpa using hn
  have hb' : ¬ fn.body = none := fun e => by simp [e] at hb
  refine ok_enter (k := k) (args := args.toArray) (w' := w) ?_ h
  simp only [execOp, resolve, evn, Deferred.ofValue, invoke, callFunc]
  simp [hx, hf, hn', hb']
theorem ok_call0 {k : FuncId} {xs : List Operand} {ats : Array TypeId} {args : List Value} (hk : Cal P k) (hx : xs.map (evn n f) = args)
    (h : Calls P k args.toArray w fun e w' => ∃ v, e = .returned v ∧ K f w') : OK P n ⟨none, .call { callee := .value (.func k), args := xs.toArray, argTypes := ats }, ty, pos, af, gd⟩ f w K := by
  obtain ⟨fn, hf, hn, hb⟩ := hk
  have hn' : ¬ fn.name = "runtime.NumGoroutine" := by simpa using hn
  have hb' : ¬ fn.body = none := fun e => by simp [e] at hb
  refine ok_enter (k := k) (args := args.toArray) (w' := w) ?_ h
  simp only [execOp, resolve, evn, Deferred.ofValue, invoke, callFunc]
  simp [hx, hf, hn', hb']
/-- A call of a function value: of a round of a range over a function, or of a function of the program. -/
def CallV (P : Program) (v : Value) (args : List Value) (w : World) (R : Ending → World → Prop) : Prop :=
  (∃ l, v = .func (.yield l) #[] #[] ∧ YieldAt Fence.wide 0 P l args.toArray w R) ∨ ∃ k first caps, v = .func (.func k) first caps ∧ Cal P k ∧ Calls P k (first ++ args.toArray ++ caps) w R
theorem CallV.mono {P : Program} {v : Value} {args : List Value} {w : World} {R R' : Ending → World → Prop} (h : CallV P v args w R) (hr : ∀ e w', R e w' → R' e w') : CallV P v args w R' := by
  rcases h with ⟨l, h1, fn, tm, as, bd, h2, h3⟩ | ⟨k, first, caps, h1, h2, h3⟩
  · exact .inl ⟨l, h1, fn, tm, as, bd, h2, h3.mono hr⟩
  · exact .inr ⟨k, first, caps, h1, h2, h3.mono hr⟩
theorem oy_call {x : Operand} {xs : List Operand} {ats : Array TypeId} {v : Value} {args : List Value} (hv : evn n f x = v) (hx : xs.map (evn n f) = args)
    (h : CallV P v args w fun e w' => ∃ u, e = .returned u ∧ K (upd f d u) w') : OY P n ⟨some d, .call { callee := .value x, args := xs.toArray, argTypes := ats }, ty, pos, af, gd⟩ f w K := by
  rcases h with ⟨l, rfl, fn, tm, as, bd, h2, h3⟩ | ⟨k, first, caps, rfl, ⟨fn, hf, hn, hb⟩, h3⟩
  · refine ⟨.inr ⟨l, fn, tm, as, bd, ?_, h3⟩⟩
    simp only [execOp, resolve, hv, Deferred.ofValue, invoke]
    simp [hx]; exact h2
  · have hn' : ¬ fn.name = "runtime.NumGoroutine" := by simpa using hn
    have hb' : ¬ fn.body = none := fun e => by simp [e] at hb
    refine ⟨.inl ⟨k, _, ?_, h3⟩⟩
    simp only [execOp, resolve, hv, Deferred.ofValue, invoke, callFunc]
    simp [hx, hf, hn', hb']
theorem oy_call0 {x : Operand} {xs : List Operand} {ats : Array TypeId} {v : Value} {args : List Value} (hv : evn n f x = v) (hx : xs.map (evn n f) = args)
    (h : CallV P v args w fun e w' => ∃ u, e = .returned u ∧ K f w') : OY P n ⟨none, .call { callee := .value x, args := xs.toArray, argTypes := ats }, ty, pos, af, gd⟩ f w K := by
  rcases h with ⟨l, rfl, fn, tm, as, bd, h2, h3⟩ | ⟨k, first, caps, rfl, ⟨fn, hf, hn, hb⟩, h3⟩
  · refine ⟨.inr ⟨l, fn, tm, as, bd, ?_, h3⟩⟩
    simp only [execOp, resolve, hv, Deferred.ofValue, invoke]
    simp [hx]; exact h2
  · have hn' : ¬ fn.name = "runtime.NumGoroutine" := by simpa using hn
    have hb' : ¬ fn.body = none := fun e => by simp [e] at hb
    refine ⟨.inl ⟨k, _, ?_, h3⟩⟩
    simp only [execOp, resolve, hv, Deferred.ofValue, invoke, callFunc]
    simp [hx, hf, hn', hb']
/-! A function as a whole. -/
structure RS (P : Program) (n : Nat) (rs : Array ResultVar) (R : Value → World → Prop) (f : Env) (w : World) : Prop where
  out : ∀ a, FM n f a → ∀ fn : Func, fn.results = rs → LeavesInM Fence.wide 0 P fn a.tmps (fun e w' => ∃ v, e = .returned v ∧ R v w') a.defers .returning w
theorem rs_of {P : Program} {n : Nat} {rs : Array ResultVar} {R : Value → World → Prop} {f : Env} {w : World} (hd : f.ds = []) (h : ∀ a, FM n f a → ∀ fn : Func, fn.results = rs → ∃ v, (results fn a.tmps).run P w = .ok v w ∧ R v w) : RS P n rs R f w :=
  ⟨fun a ha fn hr => by
    obtain ⟨v, h1, h2⟩ := h a ha fn hr
    have : a.defers = [] := by rw [ha.df, hd]; rfl
    rw [this]
    exact ⟨v, h1, v, rfl, h2⟩⟩
/-- The block of a range's deferred calls is shut on the way out. -/
theorem rs_mk {P : Program} {n : Nat} {rs : Array ResultVar} {R : Value → World → Prop} {f : Env} {w : World} {D : Nat} {l : List Nat} (hd : f.ds = D :: l) (hD : w.heap[D]? = some (.deferred (some []))) (h : ∀ w1, Chg (fun b => b = D) w w1 → RS P n rs R (nm f l) w1) : RS P n rs R f w :=
  ⟨fun a ha fn hr => by
    have e : a.defers = mark D :: l.map mark := by rw [ha.df, hd]; rfl
    rw [e]
    refine ⟨fun h => (nomatch h), .inl ⟨D, _, rfl, run_takeDeferred hD, ?_⟩⟩
    have ha' : FM n (nm f l) { a with defers := l.map mark } := ⟨rfl, ha.sz, ha.gt⟩
    exact (h (w.putObj D (.deferred none)) ⟨rfl, rfl, rfl, by simp, fun b _ hn => World.putObj_heap_other (fun e => hn e)⟩).out _ ha' fn hr⟩
@[reducible] def qq (P : Program) (n : Nat) (rs : Array ResultVar) (R : Value → World → Prop) : Exit → Env → World → Prop
  | .normal, f, w | .ret, f, w => RS P n rs R f w
  | _, _, _ => False
def ini (l : List Value) : Env := ⟨fun t => l.getD t undef, []⟩
theorem calls_of_cw {k : FuncId} {fn : Func} {c : Code} {args : List Value} {rs : Array ResultVar} {R : Value → World → Prop} (hf : P.funcs[k]? = some fn) (hb : fn.body = some c) (hn : fn.ntmps = n) (hs : args.length ≤ n) (hr : fn.results = rs)
    (h : CW none P n c (qq P n rs R) (ini args) w) : Calls P k args.toArray w fun e w' => ∃ v, e = .returned v ∧ R v w' := by
  refine callsIn_wide.1 (callsIn_of_wp_marks (F := Fence.wide) (n := 0) hf hb trivial (wpIn_mono (h.out _ ?_) fun e a w hl => ?_))
  · subst hn
    have := FM.start args.toArray fn.ntmps (by simpa using hs)
    have e : (⟨fun t => args.toArray.getD t undef, []⟩ : Env) = ini args := by unfold ini; congr 1; funext t; simp
    rw [e] at this
    simpa using this
  · cases e with
    | normal => obtain ⟨f, hf, hq⟩ := hl; exact hq.out a hf fn hr
    | ret => obtain ⟨f, hf, hq⟩ := hl; exact hq.out a hf fn hr
    | exit id => obtain ⟨f, hf, hq⟩ := hl; exact hq.elim
    | goto l => obtain ⟨f, hf, hq⟩ := hl; exact hq.elim
    | panic c => exact hl.elim
    | outgrown => exact hl.elim
/-- One result. -/
def RV1 (P : Program) (n : Nat) (f : Env) (w : World) (r : ResultVar) (v : Value) : Prop :=
  match r with
  | .tmp t => evn n f (.tmp t) = v
  | .cell t ty => ∃ a, evn n f (.tmp t) = .pointer (some a) ∧ (loadVar ty a).run P w = .ok v w
theorem RV1.t {t : Tmp} {v : Value} (h : RV1 P n f w (.tmp t) v) {a : Act} (ha : FM n f a) : a.tmps[t]?.getD undef = v := by
  have := (ha.ev (.tmp t)).trans h; simpa only [Act.eval, Array.getD_eq_getD_getElem?] using this
theorem RV1.c {t : Tmp} {ty : TypeId} {v : Value} (h : RV1 P n f w (.cell t ty) v) {a : Act} (ha : FM n f a) : ∃ ad, a.tmps[t]?.getD undef = .pointer (some ad) ∧ (loadVar ty ad).run P w = .ok v w := by
  obtain ⟨ad, h1, h2⟩ := h
  have := (ha.ev (.tmp t)).trans h1
  exact ⟨ad, by simpa only [Act.eval, Array.getD_eq_getD_getElem?] using this, h2⟩
def rvS (tm : Array Value) : ResultVar → Sem Value
  | .tmp t => pure (tm.getD t undef)
  | .cell a t => do loadVar t (← asAddr (tm.getD a undef))
theorem RV1.run {r : ResultVar} {v : Value} (h : RV1 P n f w r v) {a : Act} (ha : FM n f a) : (rvS a.tmps r).run P w = .ok v w := by
  cases r with
  | tmp t => simp [rvS, h.t ha]
  | cell t ty => obtain ⟨ad, h1, h2⟩ := h.c ha; simp [rvS, h1, h2, asAddr]
theorem results_rvS (fn : Func) (tm : Array Value) : results fn tm = (do let vs ← fn.results.mapM (rvS tm); pure (if h : vs.size = 1 then vs[0] else .tuple vs)) := by
  unfold results
  congr 1
theorem rs_0 {R : Value → World → Prop} (h : R (.tuple #[]) w) (hd : f.ds = [] := by rfl) : RS P n #[] R f w := rs_of hd fun a _ fn hr => ⟨_, by rw [results_rvS, hr]; simp, h⟩
theorem rs_1 {R : Value → World → Prop} {r : ResultVar} {v : Value} (h1 : RV1 P n f w r v) (h : R v w) (hd : f.ds = [] := by rfl) : RS P n #[r] R f w := rs_of hd fun a ha fn hr => ⟨_, by
  rw [results_rvS, hr]
  simp only [Array.mapM_eq_mapM_toList, List.mapM_cons, List.mapM_nil]
  simp [h1.run ha], h⟩
theorem rs_2 {R : Value → World → Prop} {r r2 : ResultVar} {v v2 : Value} (h1 : RV1 P n f w r v) (h2 : RV1 P n f w r2 v2) (h : R (.tuple #[v, v2]) w) (hd : f.ds = [] := by rfl) : RS P n #[r, r2] R f w := rs_of hd fun a ha fn hr => ⟨_, by
  rw [results_rvS, hr]
  simp only [Array.mapM_eq_mapM_toList, List.mapM_cons, List.mapM_nil]
  simp [h1.run ha, h2.run ha], h⟩
theorem rs_3 {R : Value → World → Prop} {r r2 r3 : ResultVar} {v v2 v3 : Value} (h1 : RV1 P n f w r v) (h2 : RV1 P n f w r2 v2) (h3 : RV1 P n f w r3 v3) (h : R (.tuple #[v, v2, v3]) w) (hd : f.ds = [] := by rfl) : RS P n #[r, r2, r3] R f w := rs_of hd fun a ha fn hr => ⟨_, by
  rw [results_rvS, hr]
  simp only [Array.mapM_eq_mapM_toList, List.mapM_cons, List.mapM_nil]
  simp [h1.run ha, h2.run ha, h3.run ha], h⟩
theorem rc {t : Tmp} {ty : TypeId} {u : TypeDesc} {b o sz by' : Nat} {z : Value} {vs : List Value} (hu : P.underlying ty = some u) (ha : aggT u = true) (hi : TI P ty z sz by') (hx : evn n f (.tmp t) = .pointer (some ⟨b, o, none⟩)) (hl : vs.length = sz) (hc : Cells w b o vs) : RV1 P n f w (.cell t ty) (.agg vs.toArray) := by
  obtain ⟨i, hi, _, hs, _⟩ := hi.get
  have hr : (loadCells ⟨b, o, none⟩ vs.length).run P w = .ok vs.toArray w := run_loadCells_list w ⟨b, o, none⟩ vs fun j v hj => by rw [add_at]; exact hc.at j v hj
  refine ⟨_, hx, ?_⟩
  simp only [loadVar]
  simp [run_isAgg hu, ha, sizeOf, typeInfo, hi, hs, ← hl, hr]
end
end Go.Proofs.Ytchjcjocihckpaa.G

/- Regions that draw their order and change the world. -/
namespace Go.Proofs.Ytchjcjocihckpaa.G
open Go Go.RowKit
/-! A region that draws its order and whose operations change the world: what yields a value wherever 'S' holds is taken first, the others come up one by one. -/
def mk (n m : Nat) : Array Bool := (List.range n).map (fun i => m.testBit i) |>.toArray
structure DW (P : Program) (n : Nat) (ops : Array Oper) (Q : Exit → Env → World → Prop) (S : World → Prop) (fuel : Nat) (m : Nat) (f : Env) (w : World) : Prop where
  out : ∀ a, FM n f a → wpAnyH P .any ops (lift n Q) S fuel (mk ops.size m) a w
/-- Number i may be taken first, and then m' is done. -/
def chkT (ops : Array Oper) (m i m' : Nat) : Bool :=
  Region.noSelect ops && Region.free .any ops (mk ops.size m) i && (Region.ready .any ops (mk ops.size m)).contains i && ((mk ops.size m).setIfInBounds i true == mk ops.size m')
/-- Number i alone may come up. -/
def chkL (ops : Array Oper) (m i m' : Nat) : Bool :=
  (Region.ready .any ops (mk ops.size m) == [i]) && ((mk ops.size m).setIfInBounds i true == mk ops.size m')
section
variable {P : Program} {n : Nat} {Q : Exit → Env → World → Prop} {f : Env} {w : World} {ops : Array Oper} {S : World → Prop} {fuel m : Nat} {o : Oper} {v : Value}
theorem cw_dw {id : Nat} (hm : P.follows .mixedOrders = true) (h : ∀ wd : World, wd = w.drew → DW P n ops Q S ops.size 0 f wd) : CW none P n (.region id ops true) Q f w :=
  ⟨fun a ha => wpIn_wide.2 (wp_region_held hm (by
    have h0 := (h _ rfl).out a ha
    have e : mk ops.size 0 = Array.replicate ops.size false := by
      apply Array.ext'
      simp [mk, List.map_const']
    rw [e] at h0
    exact h0))⟩
theorem dw_first {i m' : Nat} (hi : ops[i]? = some o) (hc : chkT ops m i m' = true) (hS : S w)
    (hy : ∀ a, FM n f a → YieldsIf P ops S o v a) (h : DW P n ops Q S fuel m' (updo f o.dst v) w) : DW P n ops Q S (fuel + 1) m f w := by
  simp only [chkT, Bool.and_eq_true, beq_iff_eq] at hc
  obtain ⟨⟨⟨h1, h2⟩, h3⟩, h4⟩ := hc
  exact ⟨fun a ha => wpAnyH_take hi h1 h2 h3 (fun _ _ _ hp => hp) (hy a ha) hS (by rw [h4]; exact h.out _ (ha.put _ _))⟩
theorem dw_t (i m' : Nat) (hi : ops[i]? = some o) (hc : chkT ops m i m' = true) (hg : o.guard = none) (hS : S w) (hr : ∀ w, S w → RV P n f w o v) (h : DW P n ops Q S fuel m' (updo f o.dst v) w) : DW P n ops Q S (fuel + 1) m f w :=
  dw_first hi hc hS (fun a ha => .inl ⟨by simp [Region.wanted, hg], fun w hw => by rw [show a.eval = evn n f from funext ha.ev]; exact hr w hw⟩) h
theorem dw_tg (i m' : Nat) {j t : Nat} {b c : Bool} (hi : ops[i]? = some o) (hc : chkT ops m i m' = true) (hg : o.guard = some (j, c)) (hj : (ops[j]?).bind (·.dst) = some t) (hb : evn n f (.tmp t) = .bool b) (hbc : b = c) (hS : S w) (hr : ∀ w, S w → RV P n f w o v)
    (h : DW P n ops Q S fuel m' (updo f o.dst v) w) : DW P n ops Q S (fuel + 1) m f w :=
  dw_first hi hc hS (fun a ha => .inl ⟨by simp [Region.wanted, hg, yl ha hj hb, hbc], fun w hw => by rw [show a.eval = evn n f from funext ha.ev]; exact hr w hw⟩) h
theorem dw_no (i m' : Nat) {j t : Nat} {b c : Bool} (hi : ops[i]? = some o) (hc : chkT ops m i m' = true) (hg : o.guard = some (j, c)) (hj : (ops[j]?).bind (·.dst) = some t) (hb : evn n f (.tmp t) = .bool b) (hbc : b = !c) (hS : S w)
    (h : DW P n ops Q S fuel m' (updo f o.dst undef) w) : DW P n ops Q S (fuel + 1) m f w :=
  dw_first hi hc hS (fun a ha => .inr ⟨by simp [Region.wanted, hg, yl ha hj hb, hbc], rfl⟩) h
theorem dw_nu (i m' : Nat) {j t : Nat} {c : Bool} (hi : ops[i]? = some o) (hc : chkT ops m i m' = true) (hg : o.guard = some (j, c)) (hj : (ops[j]?).bind (·.dst) = some t) (hb : evn n f (.tmp t) = undef) (hS : S w)
    (h : DW P n ops Q S fuel m' (updo f o.dst undef) w) : DW P n ops Q S (fuel + 1) m f w :=
  dw_first hi hc hS (fun a ha => .inr ⟨by simp [Region.wanted, hg, yu ha hj hb], rfl⟩) h
theorem dw_l (i m' : Nat) (hi : ops[i]? = some o) (hc : chkL ops m i m' = true) (hg : o.guard = none) (h : OK P n o f w (fun f' w' => S w' ∧ DW P n ops Q S fuel m' f' w')) : DW P n ops Q S (fuel + 1) m f w := by
  simp only [chkL, Bool.and_eq_true, beq_iff_eq] at hc
  refine ⟨fun a ha => wpAnyH_all hc.1 (by simp) fun j hj => ?_⟩
  obtain rfl : j = i := by simpa using hj
  rw [hc.2]
  exact wpOp_step hi fun K hK => by
    rw [if_pos (by simp [Region.wanted, hg])]
    exact h.wp a ha _ _ fun a' f' w' ha' hs => hK _ _ ⟨hs.1, hs.2.out a' ha'⟩
theorem dw_lg (i m' : Nat) {j t : Nat} {b c : Bool} (hi : ops[i]? = some o) (hc : chkL ops m i m' = true) (hg : o.guard = some (j, c)) (hj : (ops[j]?).bind (·.dst) = some t) (hb : evn n f (.tmp t) = .bool b) (hbc : b = c)
    (h : OK P n o f w (fun f' w' => S w' ∧ DW P n ops Q S fuel m' f' w')) : DW P n ops Q S (fuel + 1) m f w := by
  simp only [chkL, Bool.and_eq_true, beq_iff_eq] at hc
  refine ⟨fun a ha => wpAnyH_all hc.1 (by simp) fun q hq => ?_⟩
  obtain rfl : q = i := by simpa using hq
  rw [hc.2]
  exact wpOp_step hi fun K hK => by
    rw [if_pos (by simp [Region.wanted, hg, yl ha hj hb, hbc])]
    exact h.wp a ha _ _ fun a' f' w' ha' hs => hK _ _ ⟨hs.1, hs.2.out a' ha'⟩
/-- Either of two may come up. -/
theorem dw_two (i j m1 m2 : Nat) {o1 o2 : Oper} (hi : ops[i]? = some o1) (hj : ops[j]? = some o2) (hc : ((Region.ready .any ops (mk ops.size m) == [i, j]) && ((mk ops.size m).setIfInBounds i true == mk ops.size m1) && ((mk ops.size m).setIfInBounds j true == mk ops.size m2)) = true)
    (hg1 : o1.guard = none) (hg2 : o2.guard = none) (h1 : OK P n o1 f w (fun f' w' => S w' ∧ DW P n ops Q S fuel m1 f' w')) (h2 : OK P n o2 f w (fun f' w' => S w' ∧ DW P n ops Q S fuel m2 f' w')) : DW P n ops Q S (fuel + 1) m f w := by
  simp only [Bool.and_eq_true, beq_iff_eq] at hc
  refine ⟨fun a ha => wpAnyH_all hc.1.1 (by simp) fun q hq => ?_⟩
  have hq : q = i ∨ q = j := by simpa using hq
  rcases hq with rfl | rfl
  · rw [hc.1.2]
    exact wpOp_step hi fun K hK => by
      rw [if_pos (by simp [Region.wanted, hg1])]
      exact h1.wp a ha _ _ fun a' f' w' ha' hs => hK _ _ ⟨hs.1, hs.2.out a' ha'⟩
  · rw [hc.2]
    exact wpOp_step hj fun K hK => by
      rw [if_pos (by simp [Region.wanted, hg2])]
      exact h2.wp a ha _ _ fun a' f' w' ha' hs => hK _ _ ⟨hs.1, hs.2.out a' ha'⟩
theorem dw_d (hc : (Region.ready .any ops (mk ops.size m)).isEmpty = true) (h : Q .normal f w) : DW P n ops Q S fuel m f w :=
  ⟨fun a ha => wpAnyH_done (by simpa using hc) ⟨f, ha, h⟩ fuel⟩
theorem nt {b : Bool} (h : b = true) : (!b) = false := by rw [h]; rfl
theorem nf {b : Bool} (h : b = false) : (!b) = true := by rw [h]; rfl
theorem bcases (b : Bool) {p : Prop} (h1 : b = true → p) (h2 : b = false → p) : p := by cases b; exact h2 rfl; exact h1 rfl
theorem sto_chg {b o : Nat} {vs : List Value} {w w1 : World} (h : w1 = setCells w b o vs) : Chg (fun c => c = b) w w1 := by subst h; exact chg_sets b vs w o
theorem sto_blk {b o : Nat} {vs : List Value} {w w1 : World} {cs cs' : Array Value} {t : TypeId} {fr : Nat × Nat} (h : w1 = setCells w b o vs) (hb : w.heap[b]? = some (.cells cs t fr)) (he : setRow cs o vs = cs' := by rfl) : w1.heap[b]? = some (.cells cs' t fr) := by subst h; subst he; exact blk_sets vs o hb
theorem Chg.pre {S : Nat → Prop} {w w1 w2 : World} (h : Ext w w1) (k : Chg S w1 w2) : Chg S w w2 := h.trans k (fun _ _ h => h.elim) (fun _ _ h => h)
theorem rt {t : Tmp} {v : Value} (h : evn n f (.tmp t) = v) : RV1 P n f w (.tmp t) v := h
theorem rc1 {t : Tmp} {ty : TypeId} {u : TypeDesc} {a : Addr} {v : Value} (hu : P.underlying ty = some u) (ha : aggT u = false) (hx : evn n f (.tmp t) = .pointer (some a)) (hc : w.cell? a = some v) : RV1 P n f w (.cell t ty) v :=
  ⟨a, hx, by simp only [loadVar]; simp [run_isAgg hu, ha, hc]⟩
theorem Ext.of_drew {w wd : World} (h : wd = w.drew) : Ext w wd := by subst h; exact Ext.drew w
end
end Go.Proofs.Ytchjcjocihckpaa.G

/- Structs built, rows appended to, parts of slices and texts. -/
namespace Go.Proofs.Ytchjcjocihckpaa.G
open Go Go.RowKit
section
variable {P : Program} {n : Nat} {f : Env} {w : World} {K : Env → World → Prop}
variable {ty : TypeId} {pos : String} {af : Array Edge} {d : Nat} {gd : Option (Nat × Bool)}
/-! Structs, rows. -/
theorem r_bd {t sz by' : Nat} {z : Value} {fs : Array Field} {ps : List (Nat × Operand)} {vs : List (Nat × Value)} {places : Array (Nat × Nat)} {cs : Array Value} (ht : P.underlying t = some (.struct fs)) (hi : TI P t z sz by')
    (hp : ∀ w : World, (fs.mapM fun (fd : Field) => (do pure (fd.offset, ← sizeOf fd.type) : Sem (Nat × Nat))).run P w = .ok places w) (hv : ps.map (fun p => (p.1, evn n f p.2)) = vs) (hf : Instr.fill (places[·]?) z.cells vs = some cs) :
    RV P n f w ⟨some d, .build t ps.toArray, ty, pos, af, gd⟩ (.agg cs) := by
  obtain ⟨i, hi, hz, _, _⟩ := hi.get
  unfold RV
  simp only [execOp, Instr.build]
  have e : (List.map (fun x : Nat × Operand => (x.1, evn n f x.2)) ps) = vs := hv
  have hp' := hp w
  simp only [bind_pure_comp] at hp'
  simp [zeroValue, typeInfo, hi, hz, run_underlying ht, hp', e, hf]
def zr (l : List Value) (m : Nat) : Array Value := ((List.range m).map fun j => l.getD (j % l.length) default).toArray
theorem zr_eq (c : Array Value) (m : Nat) : (Array.range m).map (c[· % c.size]!) = zr c.toList m := by
  apply Array.ext'
  simp [zr, Array.toList_range]
  intro a _
  simp [getElem!_def]
  cases c[a % c.size]? <;> rfl
theorem ok_bs {t e len sz by' : Nat} {z : Value} {ps : List (Nat × Operand)} {vs : List (Nat × Value)} {cs : Array Value} (ht : P.underlying t = some (.slice e)) (hi : TI P e z sz by') (hsz : (sz == 0) = false) (hl : (len * sz ≤ 2 ^ 24)) (hv : ps.map (fun p => (p.1, evn n f p.2)) = vs)
    (hf0 : Instr.fill (fun i => some (i * sz, sz)) (zr z.cells.toList (len * sz)) vs = some cs)
    (h : ∀ b w1, New w b (.cells cs e (0, 0)) w1 → K (upd f d (.slice (some ⟨b, 0, none⟩) len len)) w1) :
    OK P n ⟨some d, .buildSlice t len ps.toArray, ty, pos, af, gd⟩ f w K := by
  obtain ⟨i, hi, hz, hs, _⟩ := hi.get
  refine ok_run (v := .slice (some ⟨w.heap.size, 0, none⟩) len len) (w' := w.alloc (.cells cs e (0, 0))) ?_ (h _ _ (New.alloc w _))
  have hl' : ¬ (len * sz > 2 ^ 24) := by omega
  have hf := hf0
  rw [← zr_eq] at hf
  have e2 : (List.map (fun x : Nat × Operand => (x.1, evn n f x.2)) ps) = vs := hv
  simp only [execOp, Instr.buildSlice]
  by_cases h0 : len * sz = 0
  · have hlen : len = 0 := by
      rcases Nat.mul_eq_zero.1 h0 with h | h
      · exact h
      · rw [h] at hsz; simp at hsz
    subst hlen
    have h00 : (0 * sz) = 0 := Nat.zero_mul _
    rw [h00] at hf
    simp only [Sem.run_bind, run_underlying ht, Result.andThen_ok]
    have hr0 : ∀ g : Nat → Value, (Array.range 0).map g = #[] := fun g => by apply Array.ext'; simp [Array.range]
    rw [hr0] at hf
    simp [sizeOf, typeInfo, hi, hs, hr0, e2, hf, newRow]
  · simp only [Sem.run_bind, run_underlying ht, Result.andThen_ok]
    simp [sizeOf, typeInfo, hi, hs, hl', h0, zeroValue, hz, e2, hf, newRow]
/-! Appending. -/
def Sl.blk (s : Sl) : Option Nat := s.b.map (·.block)
theorem Sl.own_blk (s : Sl) : s.v.ownBlock = s.blk := by rcases s with ⟨_ | a, n, c⟩ <;> rfl
/-- A slice that is nil or has a row of its own. -/
abbrev Own (w : World) (e sz : Nat) (s : Sl) (xs : List Value) : Prop := w.ownsRow 0 e sz s.v s.n xs
structure App (w : World) (e sz : Nat) (s : Sl) (xs : List Value) (m : Nat) (news : List Value) (s' : Sl) (w1 : World) : Prop where
  own : Own w1 e sz s' (xs ++ news)
  len : s'.n = s.n + m
  chg : Chg (fun b => s.blk = some b) w w1
  loc : s'.blk = s.blk ∨ ∃ b, s'.blk = some b ∧ w.heap.size ≤ b
  nil : s'.b = none ↔ s.b = none ∧ m = 0
theorem ownsRow_ext {w w1 : World} {base e sz n : Nat} {v : Value} {xs : List Value} (x : Ext w w1) (h : w.ownsRow base e sz v n xs) : w1.ownsRow base e sz v n xs := by
  obtain ⟨hl, h | ⟨g, cap, cur, h1, h2, h3, h4⟩⟩ := h
  · exact ⟨hl, .inl h⟩
  · exact ⟨hl, .inr ⟨g, cap, cur, h1, h2, x.get h3, h4⟩⟩
theorem own_sl {w : World} {base e sz n : Nat} {v : Value} {xs : List Value} (h : w.ownsRow base e sz v n xs) : ∃ s : Sl, v = s.v ∧ s.n = n ∧ (s.b = none ↔ v = .slice none 0 0) := by
  obtain ⟨_, ⟨rfl, rfl⟩ | ⟨g, cap, cur, rfl, _⟩⟩ := h
  · exact ⟨⟨none, 0, 0⟩, rfl, rfl, by simp⟩
  · exact ⟨⟨some ⟨g, 0, none⟩, n, cap⟩, rfl, rfl, by simp⟩
theorem ok_app {x y : Operand} {t e sz by' : Nat} {z : Value} {wv : World} {s : Sl} {xs : List Value} {ab ao m c : Nat} {news : List Value} (ht : P.underlying t = some (.slice e)) (hi : TI P e z sz by') (hzs : z.cells.size = sz) (hsz : (sz == 0) = false)
    (hx : evn n f x = s.v) (hy : evn n f y = .slice (some ⟨ab, ao, none⟩) m c) (X : Ext wv w) (hown : Own wv e sz s xs) (hc : Cells w ab ao news) (hl : news.length = m * sz) (h1 : news.all (·.oneCell') = true) (hb : (s.n + m) * by' ≤ 140737488355328 ∧ s.n + m ≤ maxLen)
    (h : ∀ s' w1, App wv e sz s xs m news s' w1 → Chg (fun b => s.blk = some b) w w1 → K (upd f d s'.v) w1) :
    OK P n ⟨some d, .call { callee := .builtin .append, args := #[x, y], argTypes := #[t, t] }, ty, pos, af, gd⟩ f w K := by
  obtain ⟨i, hi, hz, hs, hby⟩ := hi.get
  have hsz' : 0 < sz := by rcases Nat.eq_zero_or_pos sz with h | h; (rw [h] at hsz; simp at hsz); exact h
  obtain ⟨v', w', hr, ho, hg, hn, hloc⟩ := run_append_own_at (P := P) w 0 t ty e i z sz by' ht hi hz hs hby hzs hsz' s.v s.n xs (ownsRow_ext X hown) ⟨ab, ao, none⟩ m c news hl (fun j u hu => by rw [add_at]; exact hc.at j u hu) (fun u hu => by simpa using List.all_eq_true.1 h1 u hu) hb.2 hb.1 (Nat.zero_le _)
  obtain ⟨s', rfl, hsn, hnil⟩ := own_sl ho
  have hg' : Chg (fun b => s.blk = some b) w w' := (Chg.of_grown hg).mono fun b _ hb => by rw [← Sl.own_blk]; exact hb.symm
  refine ok_run (v := s'.v) (w' := w') ?_ (h s' w' ⟨by rw [hsn.symm] at ho; exact ho, hsn, Chg.pre X hg', ?_, ?_⟩ hg')
  · simp only [execOp, resolve, invoke, builtin]
    simp [hx, hy, hr]
  · rw [Sl.own_blk, Sl.own_blk] at hloc
    rcases hloc with h | h
    · exact .inl h
    · exact .inr ⟨_, h, X.size⟩
  · rw [hnil, hn]
    constructor
    · rintro ⟨h, h2⟩; exact ⟨by rcases s with ⟨b, _, _⟩; simp [Sl.v] at h; exact h.1, h2⟩
    · rintro ⟨h, h2⟩
      refine ⟨?_, h2⟩
      obtain ⟨_, h3 | ⟨g, cap, cur, h3, _⟩⟩ := hown
      · exact h3.1
      · rcases s with ⟨b, _, _⟩; simp [Sl.v] at h3 h; rw [h] at h3; simp at h3
/-! Parts of texts and of slices. -/
theorem r_ss {x : Operand} {lo hi : Option Operand} {t : TypeId} {s : ByteArray} {l h : Nat} (hx : evn n f x = .string s) (ht : P.underlying t = some .string) (hl : lo.map (evn n f) = if lo.isSome then some (.int .i64 (l : Nat)) else none) (hh : hi.map (evn n f) = if hi.isSome then some (.int .i64 (h : Nat)) else none)
    (hl0 : lo.isSome = false → l = 0) (hh0 : hi.isSome = false → h = s.size) (h1 : l ≤ h ∧ h ≤ s.size) : RV P n f w ⟨some d, .slice t x lo hi none, ty, pos, af, gd⟩ (.string (s.extract l h)) := by
  have a1 : ((l : Nat) : Int) ≤ ((h : Nat) : Int) := by omega
  have a2 : ((h : Nat) : Int) ≤ ((s.size : Nat) : Int) := by omega
  unfold RV
  simp only [execOp, hx, Instr.sliceAt, hl, hh]
  simp only [Sem.run_bind, run_underlying ht, Result.andThen_ok]
  cases lo <;> cases hi <;> simp at hl0 hh0 <;> subst_vars <;> simp [Instr.slice, run_underlying ht, Instr.sliceBounds, Instr.sliceBound, asIntOf, h1.1, h1.2]
def Sl.sub (s : Sl) (l h sz : Nat) : Sl := ⟨if s.c = l then s.b else s.b.map (·.add (l * sz)), h - l, s.c - l⟩
theorem r_sl {x : Operand} {lo hi : Option Operand} {t e sz by' : Nat} {z : Value} {s : Sl} {l h : Nat} (hx : evn n f x = s.v) (ht : P.underlying t = some (.slice e)) (hi' : TI P e z sz by') (hl : lo.map (evn n f) = if lo.isSome then some (.int .i64 (l : Nat)) else none) (hh : hi.map (evn n f) = if hi.isSome then some (.int .i64 (h : Nat)) else none)
    (hl0 : lo.isSome = false → l = 0) (hh0 : hi.isSome = false → h = s.n) (h1 : l ≤ h ∧ h ≤ s.c) : RV P n f w ⟨some d, .slice t x lo hi none, ty, pos, af, gd⟩ (s.sub l h sz).v := by
  obtain ⟨i, hI, _, hs, _⟩ := hi'.get
  unfold RV
  simp only [execOp, hx, Instr.sliceAt, hl, hh]
  simp only [Sem.run_bind, run_underlying ht, Result.andThen_ok]
  cases lo <;> cases hi <;> simp at hl0 hh0 <;> subst_vars <;> simp [Instr.slice, Sl.v, Sl.sub, run_underlying ht, Instr.sliceBounds, Instr.sliceBound, asIntOf, h1.1, h1.2, sizeOf, typeInfo, hI]
/-! Numbers. -/
theorem r_max {x y : Operand} {ats : Array TypeId} {k : IntKind} {i j : Int} (hx : evn n f x = .int k i) (hy : evn n f y = .int k j) : RV P n f w ⟨some d, .call { callee := .builtin .max, args := #[x, y], argTypes := ats }, ty, pos, af, gd⟩ (.int k (max i j)) := by
  unfold RV
  simp only [execOp, resolve, invoke, builtin]
  have e : (if j > i then j else i) = max i j := by split <;> omega
  simp [hx, hy, Builtin.max_, Builtin.max2]
  exact e
theorem r_min {x y : Operand} {ats : Array TypeId} {k : IntKind} {i j : Int} (hx : evn n f x = .int k i) (hy : evn n f y = .int k j) : RV P n f w ⟨some d, .call { callee := .builtin .min, args := #[x, y], argTypes := ats }, ty, pos, af, gd⟩ (.int k (min i j)) := by
  unfold RV
  simp only [execOp, resolve, invoke, builtin]
  have e : (if j < i then j else i) = min i j := by split <;> omega
  simp [hx, hy, Builtin.min_, Builtin.min2]
  exact e
/-! Structs held against each other. -/
theorem part_leaf {t : TypeId} {u : TypeDesc} {cs : Array Value} {o : Nat} {v : Value} (hu : P.underlying t = some u) (ha : aggT u = false) (hv : cs[o]? = some v) : (part t cs o).run P w = .ok v w := by
  unfold part
  simp only [Sem.run_bind, run_isAgg hu, Result.andThen_ok, ha, Bool.false_eq_true, if_false, hv]
  rfl
/-- One field of two structs: alike? -/
def FEq (P : Program) (d : Nat) (xs ys : Array Value) (fd : Field) (b : Bool) : Prop := ∃ x y, (∀ w, (part fd.type xs fd.offset).run P w = .ok x w) ∧ (∀ w, (part fd.type ys fd.offset).run P w = .ok y w) ∧ ∀ w, (Op.equalIn d fd.type x y).run P w = .ok b w
theorem feq_int {dd : Nat} {xs ys : Array Value} {fd : Field} {k : IntKind} {i j : Int} (hu : P.underlying fd.type = some (.int k)) (hx : xs[fd.offset]? = some (.int k i)) (hy : ys[fd.offset]? = some (.int k j)) : FEq P (dd + 1) xs ys fd (decide (i = j)) :=
  ⟨_, _, fun _ => part_leaf hu rfl hx, fun _ => part_leaf hu rfl hy, fun w => by rw [← beq_dec]; unfold Op.equalIn; simp [run_underlying hu]⟩
theorem feq_str {dd : Nat} {xs ys : Array Value} {fd : Field} {i j : ByteArray} (hu : P.underlying fd.type = some .string) (hx : xs[fd.offset]? = some (.string i)) (hy : ys[fd.offset]? = some (.string j)) : FEq P (dd + 1) xs ys fd (decide (i = j)) :=
  ⟨_, _, fun _ => part_leaf hu rfl hx, fun _ => part_leaf hu rfl hy, fun w => by
    have e : (i == j) = decide (i = j) := by
      have h : (i == j) = (i.data == j.data) := rfl
      rw [h, beq_dec]; congr 1
      exact propext ⟨fun h => by cases i; cases j; simpa using h, fun h => by rw [h]⟩
    rw [← e]; unfold Op.equalIn; simp [run_underlying hu]⟩
inductive FEqs (P : Program) (dd : Nat) (xs ys : Array Value) : List Field → List Bool → Prop
  | nil : FEqs P dd xs ys [] []
  | cons {fd : Field} {b : Bool} {fs : List Field} {bs : List Bool} (hn : (fd.name == "_") = false) (h : FEq P dd xs ys fd b) (t : FEqs P dd xs ys fs bs) : FEqs P dd xs ys (fd :: fs) (b :: bs)
theorem FEqs.run {dd : Nat} {xs ys : Array Value} : ∀ {fs : List Field} {bs : List Bool}, FEqs P dd xs ys fs bs → ∀ w, (Op.eqFields dd xs ys fs).run P w = .ok (bs.all id) w
  | _, _, .nil, w => by simp [Op.eqFields]
  | _, _, .cons (b := b) hn h t, w => by
    obtain ⟨x, y, h1, h2, h3⟩ := h
    have ih := FEqs.run t w
    have hn' := by simpa using hn
    simp only [Op.eqFields]
    cases b <;> simp [hn', h1, h2, h3, ih]
theorem eq_struct {t : TypeId} {fs : List Field} {bs : List Bool} {dd : Nat} {xs ys : Array Value} (h : P.underlying t = some (.struct fs.toArray)) (hs : P.stoodInHeld t = false) (hf : FEqs P dd xs ys fs bs) : (Op.equalIn (dd + 1) t (.agg xs) (.agg ys)).run P w = .ok (bs.all id) w := by
  have hfo : P.fieldsOf t = fs.toArray := by simp [Program.fieldsOf, h]
  rw [run_equalIn_struct (P := P) w dd t xs ys (by rw [hfo]; exact h) hs, hfo]
  exact hf.run w
theorem al1 {p : Prop} [Decidable p] : [decide p].all id = decide p := by simp
theorem al2 {p q : Prop} [Decidable p] [Decidable q] : [decide p, decide q].all id = decide (p ∧ q) := by by_cases p <;> by_cases q <;> simp [*]
theorem al3 {p q r : Prop} [Decidable p] [Decidable q] [Decidable r] : [decide p, decide q, decide r].all id = decide (p ∧ q ∧ r) := by by_cases p <;> by_cases q <;> by_cases r <;> simp [*]
theorem al6 {p q r s t u : Prop} [Decidable p] [Decidable q] [Decidable r] [Decidable s] [Decidable t] [Decidable u] : [decide p, decide q, decide r, decide s, decide t, decide u].all id = decide (p ∧ q ∧ r ∧ s ∧ t ∧ u) := by
  by_cases p <;> by_cases q <;> by_cases r <;> by_cases s <;> by_cases t <;> by_cases u <;> simp [*]
section
variable {x y : Operand} {t yt : TypeId} {xs ys : Array Value} {fs : List Field} {bs : List Bool}
theorem a_eql {r : Bool} (h : P.underlying t = some (.struct fs.toArray)) (hsg : P.stoodInHeld t = false ∧ P.eqGuardType P.depth t = false) (hx : evn n f x = .agg xs) (hy : evn n f y = .agg ys) (hf : FEqs P 9999 xs ys fs bs) (hr : bs.all id = r) : RV P n f w ⟨some d, .binOp .eql t x y yt, ty, pos, af, gd⟩ (.bool r) := by
  subst hr; obtain ⟨hs, hg⟩ := hsg
  have e := eq_struct (w := w) h hs hf
  unfold RV
  simp only [execOp, hx, hy, eqGuard, binOp, Op.equal, Op.maxDepth]
  simp [hg, e]
theorem a_neq {r : Bool} (h : P.underlying t = some (.struct fs.toArray)) (hsg : P.stoodInHeld t = false ∧ P.eqGuardType P.depth t = false) (hx : evn n f x = .agg xs) (hy : evn n f y = .agg ys) (hf : FEqs P 9999 xs ys fs bs) (hr : bs.all id = r) : RV P n f w ⟨some d, .binOp .neq t x y yt, ty, pos, af, gd⟩ (.bool !r) := by
  subst hr; obtain ⟨hs, hg⟩ := hsg
  have e := eq_struct (w := w) h hs hf
  unfold RV
  simp only [execOp, hx, hy, eqGuard, binOp, Op.equal, Op.maxDepth]
  simp [hg, e]
end
theorem f_eqn {x y : Operand} {t yt : TypeId} {fn : Fn} {a b : Array Value} {u : TypeDesc} (h : P.underlying t = some u) (hu : (match u with | .func .. => true | _ => false) = true) (hx : evn n f x = .func fn a b) (hy : evn n f y = .nilFunc) : RV P n f w ⟨some d, .binOp .eql t x y yt, ty, pos, af, gd⟩ (.bool false) := by
  have e : ∀ m, (Op.equalIn (m + 1) t (.func fn a b) .nilFunc).run P w = .ok false w := fun m => by
    unfold Op.equalIn; cases u <;> simp at hu; simp [run_underlying h]
  unfold RV
  simp only [execOp, hx, hy, eqGuard, binOp, Op.equal, Op.maxDepth]
  simp [e 9999]
theorem r_quo {x y : Operand} {t yt : TypeId} {k : IntKind} {i j z : Int} (hx : evn n f x = .int k i) (hy : evn n f y = .int k j) (hj : j ≠ 0) (hz : z = k.wrap (i.tdiv j)) : RV P n f w ⟨some d, .binOp .quo t x y yt, ty, pos, af, gd⟩ (.int k z) := by
  subst hz; unfold RV; simp only [execOp, hx, hy, eqGuard, binOp, Op.intDiv]; simp [hj]
theorem r_rem {x y : Operand} {t yt : TypeId} {k : IntKind} {i j z : Int} (hx : evn n f x = .int k i) (hy : evn n f y = .int k j) (hj : j ≠ 0) (hz : z = i.tmod j) : RV P n f w ⟨some d, .binOp .rem t x y yt, ty, pos, af, gd⟩ (.int k z) := by
  subst hz; unfold RV; simp only [execOp, hx, hy, eqGuard, binOp, Op.intDiv]; simp [hj]
theorem r_mf {k : FuncId} {ps qs : List Operand} {vs us : List Value} (hv : ps.map (evn n f) = vs) (hu : qs.map (evn n f) = us) : RV P n f w ⟨some d, .makeFunc (.func k) ps.toArray qs.toArray, ty, pos, af, gd⟩ (.func (.func k) vs.toArray us.toArray) := by
  unfold RV; simp only [execOp, Instr.makeFunc]; simp [hv, hu]
/-! Bytes. -/
def byV (x : UInt8) : Value := .int .u8 (x.toNat : Nat)
/-- A slice that reads as bytes. -/
def Bys (w : World) (s : Sl) (l : List UInt8) : Prop := l.length = s.n ∧ ((s.b = none ∧ l = []) ∨ ∃ b o, s.b = some ⟨b, o, none⟩ ∧ Cells w b o (l.map byV))
theorem Bys.ext {w w1 : World} {s : Sl} {l : List UInt8} (x : Ext w w1) (h : Bys w s l) : Bys w1 s l := by
  obtain ⟨h1, h | ⟨b, o, h2, h3⟩⟩ := h
  · exact ⟨h1, .inl h⟩
  · exact ⟨h1, .inr ⟨b, o, h2, h3.ext x⟩⟩
theorem fold_bytes (l : List UInt8) : ∀ (r : ByteArray), (l.map (fun x : UInt8 => (x.toNat : Int))).foldl (fun r n => r.push (UInt8.ofNat n.toNat)) r = ⟨(r.data.toList ++ l).toArray⟩ := by
  induction l with
  | nil => intro r; cases r; simp
  | cons x l ih =>
    intro r
    simp only [List.map_cons, List.foldl_cons]
    rw [ih]
    congr 2
    simp [ByteArray.push]
theorem r_b2s {x : Operand} {s : Sl} {t u e : TypeId} {l : List UInt8} (ht : P.underlying t = some (.slice e)) (he : P.underlying e = some (.int .u8)) (hu : P.underlying u = some .string) (hx : evn n f x = s.v) (hb : Bys w s l) : RV P n f w ⟨some d, .convert t u x, ty, pos, af, gd⟩ (.string ⟨l.toArray⟩) := by
  obtain ⟨hl, ⟨h1, rfl⟩ | ⟨b, o, h1, h2⟩⟩ := hb
  · unfold RV
    simp only [execOp, hx, convert, Sl.v, h1]
    simp [run_underlying ht, run_underlying hu, run_underlying he, Conv.bytesToString]
    rfl
  · have hr : (loadCells ⟨b, o, none⟩ s.n).run P w = .ok (l.map byV).toArray w := by
      have := run_loadCells_list (P := P) w ⟨b, o, none⟩ (l.map byV) fun j v hj => by rw [add_at]; exact h2.at j v hj
      simpa [hl] using this
    have key := run_bytesToString (P := P) w ⟨b, o, none⟩ s.n s.c (l.map fun x : UInt8 => (x.toNat : Int))
    unfold RV
    simp only [execOp, hx, convert, Sl.v, h1]
    have key2 := key (by rw [hr]; simp [byV, Function.comp_def])
    rw [fold_bytes l ByteArray.empty] at key2
    simp [run_underlying ht, run_underlying hu, run_underlying he, key2]
theorem bys_row {b c : Nat} {cs : Array Value} {t : TypeId} {fr : Nat × Nat} {l : List UInt8} (h : w.heap[b]? = some (.cells cs t fr)) (hl : cs = (l.map byV).toArray) : Bys w ⟨some ⟨b, 0, none⟩, l.length, c⟩ l :=
  ⟨rfl, .inr ⟨b, 0, rfl, Cells.blk h _ 0 fun j v hj => by subst hl; simpa using hj⟩⟩
/-- A new row of a text's bytes. -/
structure BysNew (w w1 : World) (s : Sl) (x : ByteArray) : Prop where
  bys : Bys w1 s x.data.toList
  len : s.n = x.size
  fresh : ∃ b, s.b = some ⟨b, 0, none⟩ ∧ w.heap.size ≤ b
theorem Fresh.from {w w1 w2 : World} {s : Sl} {x : ByteArray} (h : Ext w w1) (k : BysNew w1 w2 s x) : BysNew w w2 s x := ⟨k.bys, k.len, by obtain ⟨b, h1, h2⟩ := k.fresh; exact ⟨b, h1, Nat.le_trans h.size h2⟩⟩
theorem ok_s2b {x : Operand} {s : ByteArray} {t u e : TypeId} (ht : P.underlying t = some .string) (hu : P.underlying u = some (.slice e)) (he : P.underlying e = some (.int .u8)) (hx : evn n f x = .string s)
    (h : ∀ (sl : Sl) w1, Ext w w1 → BysNew w w1 sl s → K (upd f d sl.v) w1) : OK P n ⟨some d, .convert t u x, ty, pos, af, gd⟩ f w K := by
  have hr := Lib.run_convert_string_bytes (P := P) w t u e s ht hu he
  have hx1 : Ext w (Lib.bytesWorld w e s) := ⟨rfl, rfl, rfl, by rw [Lib.bytesWorld_size]; omega, fun b hb _ => Lib.bytesWorld_at_old w e s b hb⟩
  refine ok_run (v := .slice (some ⟨w.heap.size, 0, none⟩) s.size (grownCap w s.size 0 e)) (w' := Lib.bytesWorld w e s) ?_ (h ⟨some ⟨w.heap.size, 0, none⟩, s.size, grownCap w s.size 0 e⟩ _ hx1 ?_)
  · simp only [execOp, hx]
    simp [hr]
  · have hsz : s.data.toList.length = s.size := by simp
    refine ⟨⟨hsz, .inr ⟨_, 0, rfl, Cells.of _ 0 fun j v hj => ?_⟩⟩, rfl, _, rfl, Nat.le_refl _⟩
    have hj2 : j < s.size := by
      have := (List.getElem?_eq_some_iff.1 hj).1
      simpa [hsz] using this
    rw [Nat.zero_add, Lib.bytesWorld_cell w e s j hj2]
    simp only [List.getElem?_map] at hj
    cases hq : s.data.toList[j]? with
    | none => rw [hq] at hj; cases hj
    | some q => rw [hq] at hj; simp [byV] at hj; simp [List.getD, hq, ← hj]
end
end Go.Proofs.Ytchjcjocihckpaa.G

/- Maps, as lists of entries. -/
namespace Go.Proofs.Ytchjcjocihckpaa.G
open Go Go.RowKit
/-! Maps. -/
theorem ba_beq (a b : ByteArray) : (a == b) = decide (a = b) := by
  have h : (a == b) = (a.data == b.data) := rfl
  rw [h, beq_dec]
  congr 1
  exact propext ⟨fun h => by cases a; cases b; simpa using h, fun h => by rw [h]⟩
/-- How the keys of a map are found: 'ek' makes a key's value. -/
def findR {α : Type} [DecidableEq α] (a : α) : List MapEntry → List α → Nat → Option (Nat × Value)
  | e :: l, x :: xs, i => if x = a then some (i, e.val) else findR a l xs (i + 1)
  | _, _, _ => none
structure KeyE {α : Type} [DecidableEq α] (P : Program) (kt : TypeId) (ek : α → Value) : Prop where
  find : ∀ (a : α) (l : List MapEntry) (xs : List α) (w : World), l.map (·.key) = xs.map ek → (Instr.findKey kt (ek a) l).run P w = .ok (findR a l xs 0) w
  check : ∀ (b : Bool) (a : α) (w : World), (Instr.checkKey b 10000 kt (ek a)).run P w = .ok () w
  same : ∀ a : α, Instr.sameBits 10000 (ek a) (ek a) = true
section
variable {P : Program} {w : World}
theorem key_str {kt : TypeId} (h : P.underlying kt = some .string) : KeyE P kt (fun s : ByteArray => .string s) where
  find a l xs w hl := by
    have h1 : ∀ (l : List MapEntry) (xs : List ByteArray) (i : Nat), l.map (·.key) = xs.map (fun s : ByteArray => Value.string s) → Instr.findNow .string (.string a) l i = some (findR a l xs i) := by
      intro l
      induction l with
      | nil => intro xs i hl; cases xs with | nil => rfl | cons x xs => simp at hl
      | cons e l ih =>
        intro xs i hl
        cases xs with
        | nil => simp at hl
        | cons x xs =>
          simp only [List.map_cons, List.cons.injEq] at hl
          simp only [Instr.findNow, hl.1, Instr.sameNow, findR]
          by_cases hx : x = a
          · subst hx; simp [ba_beq]
          · have : (a == x) = false := by rw [ba_beq]; exact decide_eq_false (fun h : a = x => hx h.symm)
            rw [this, if_neg hx]; exact ih xs (i + 1) hl.2
    simp [Instr.findKey, run_underlying h, h1 l xs 0 hl]
  check b a w := by unfold Instr.checkKey; simp [run_underlying h]
  same a := by simp [Instr.sameBits, ba_beq]
theorem key_int {kt : TypeId} {k : IntKind} (h : P.underlying kt = some (.int k)) : KeyE P kt (fun s : Int => .int k s) where
  find a l xs w hl := by
    have h1 : ∀ (l : List MapEntry) (xs : List Int) (i : Nat), l.map (·.key) = xs.map (fun s : Int => Value.int k s) → Instr.findNow (.int k) (.int k a) l i = some (findR a l xs i) := by
      intro l
      induction l with
      | nil => intro xs i hl; cases xs with | nil => rfl | cons x xs => simp at hl
      | cons e l ih =>
        intro xs i hl
        cases xs with
        | nil => simp at hl
        | cons x xs =>
          simp only [List.map_cons, List.cons.injEq] at hl
          simp only [Instr.findNow, hl.1, Instr.sameNow, findR]
          by_cases hx : x = a
          · subst hx; simp
          · have : (a == x) = false := by rw [beq_dec]; exact decide_eq_false (fun h : a = x => hx h.symm)
            simp only [if_true, this, if_neg hx]; exact ih xs (i + 1) hl.2
    simp [Instr.findKey, run_underlying h, h1 l xs 0 hl]
  check b a w := by unfold Instr.checkKey; simp [run_underlying h]
  same a := by simp [Instr.sameBits]
@[reducible] def strV (s : ByteArray) : Value := .string s
@[reducible] def intV (i : Int) : Value := .int .i64 i
@[reducible] def ptrV (p : Option Addr) : Value := .pointer p
/-- A pair of numbers as a struct. -/
@[reducible] def pairV (p : Int × Int) : Value := .agg #[.int .i64 p.1, .int .i64 p.2]
theorem key_pair {kt ti : TypeId} {fa fb : Field} (h : P.underlying kt = some (.struct #[fa, fb])) (ha : fa.type = ti) (hb : fb.type = ti) (oa : fa.offset = 0) (ob : fb.offset = 1) (na : (fa.name == "_") = false) (nb : (fb.name == "_") = false) (hi : P.underlying ti = some (.int .i64)) (hs : P.stoodInHeld kt = false) : KeyE P kt pairV := by
  have na' : fa.name ≠ "_" := by simpa using na
  have nb' : fb.name ≠ "_" := by simpa using nb
  have heq1 : ∀ (m : Nat) (a b : Int) (w : World), (Op.equalIn (m + 1) ti (.int .i64 a) (.int .i64 b)).run P w = .ok (a == b) w := fun m a b w => by unfold Op.equalIn; simp [run_underlying hi]
  have heq : ∀ (a b : Int × Int) (w : World), (Op.equal kt (pairV a) (pairV b)).run P w = .ok (decide (a = b)) w := by
    intro a b w
    simp only [Op.equal, Op.maxDepth, pairV]
    unfold Op.equalIn
    simp [run_underlying h, hs, na', nb', ha, hb, oa, ob, part, run_isAgg hi, aggT, heq1 9998, Prod.ext_iff]
    by_cases h1 : a.1 = b.1 <;> by_cases h2 : a.2 = b.2 <;> simp [h1, h2]
  refine ⟨fun a l xs w hl => ?_, fun b a w => ?_, fun a => ?_⟩
  · have h1 : ∀ (l : List MapEntry) (xs : List (Int × Int)) (i : Nat), l.map (·.key) = xs.map pairV → (Instr.findAsking kt (pairV a) l i).run P w = .ok (findR a l xs i) w := by
      intro l
      induction l with
      | nil => intro xs i hl; cases xs with | nil => rfl | cons x xs => simp at hl
      | cons e l ih =>
        intro xs i hl
        cases xs with
        | nil => simp at hl
        | cons x xs =>
          simp only [List.map_cons, List.cons.injEq] at hl
          simp only [Instr.findAsking, hl.1, findR, Sem.run_bind, heq, Result.andThen_ok]
          by_cases hx : x = a
          · subst hx; simp
          · have : ¬ a = x := fun h => hx h.symm
            simp only [this, decide_false, Bool.false_eq_true, if_false, if_neg hx]; exact ih xs (i + 1) hl.2
    cases l with
    | nil => cases xs with
      | nil => simp [Instr.findKey, run_underlying h, Instr.findNow, findR]
      | cons x xs => simp at hl
    | cons e l =>
      have hn : Instr.findNow (.struct #[fa, fb]) (pairV a) (e :: l) 0 = none := by simp [Instr.findNow, Instr.sameNow]
      simp [Instr.findKey, run_underlying h, hn, h1 (e :: l) xs 0 hl]
  · have hci : ∀ (m : Nat) (b : Bool) (x : Int) (w : World), (Instr.checkKey b (m + 1) ti (.int .i64 x)).run P w = .ok () w := fun m b x w => by unfold Instr.checkKey; simp [run_underlying hi]
    simp only [pairV]
    unfold Instr.checkKey
    simp [run_underlying h, na', nb', ha, hb, oa, ob, part, run_isAgg hi, aggT, hci 9998]
  · simp [Instr.sameBits]
end
/-! What a map holds: entries in the order in which they came. -/
section
variable {α β : Type} [DecidableEq α]
def mget (a : α) : List (α × β) → Option β
  | [] => none
  | p :: l => if p.1 = a then some p.2 else mget a l
def mput (a : α) (b : β) : List (α × β) → List (α × β)
  | [] => [(a, b)]
  | p :: l => if p.1 = a then (a, b) :: l else p :: mput a b l
def mdel (a : α) : List (α × β) → List (α × β)
  | [] => []
  | p :: l => if p.1 = a then l else p :: mdel a l
theorem mget_none {a : α} : ∀ {l : List (α × β)}, mget a l = none ↔ a ∉ l.map (·.1)
  | [] => by simp [mget]
  | p :: l => by
    simp only [mget]
    by_cases h : p.1 = a
    · simp [h]
    · simp only [if_neg h, mget_none (l := l), List.map_cons, List.mem_cons, not_or]
      exact ⟨fun h2 => ⟨fun e => h e.symm, h2⟩, fun h2 => h2.2⟩
theorem mget_some {a : α} {b : β} : ∀ {l : List (α × β)}, mget a l = some b → (a, b) ∈ l
  | [], h => by simp [mget] at h
  | p :: l, h => by
    simp only [mget] at h
    by_cases e : p.1 = a
    · rw [if_pos e] at h; cases h; subst e; exact List.mem_cons_self
    · rw [if_neg e] at h; exact List.mem_cons_of_mem _ (mget_some h)
theorem mget_mem {a : α} {b : β} : ∀ {l : List (α × β)}, (l.map (·.1)).Nodup → (a, b) ∈ l → mget a l = some b
  | [], _, h => by cases h
  | p :: l, hn, h => by
    simp only [List.map_cons, List.nodup_cons] at hn
    simp only [mget]
    rcases List.mem_cons.1 h with h | h
    · subst h; simp
    · have : p.1 ≠ a := fun e => hn.1 (e ▸ List.mem_map.2 ⟨_, h, rfl⟩)
      rw [if_neg this]; exact mget_mem hn.2 h
theorem mput_keys (a : α) (b : β) : ∀ (l : List (α × β)), (mput a b l).map (·.1) = if a ∈ l.map (·.1) then l.map (·.1) else l.map (·.1) ++ [a]
  | [] => by simp [mput]
  | p :: l => by
    simp only [mput]
    by_cases h : p.1 = a
    · simp [h]
    · have h' : a ≠ p.1 := fun e => h e.symm
      simp only [if_neg h, List.map_cons, mput_keys a b l, List.mem_cons, h', false_or]
      split <;> simp
theorem mput_nodup {a : α} {b : β} {l : List (α × β)} (h : (l.map (·.1)).Nodup) : ((mput a b l).map (·.1)).Nodup := by
  rw [mput_keys]
  split
  · exact h
  · rename_i hn; rw [List.nodup_append]; exact ⟨h, by simp, fun x hx y hy => by simp at hy; subst hy; exact fun e => hn (e ▸ hx)⟩
theorem mget_mput (a c : α) (b : β) : ∀ (l : List (α × β)), mget c (mput a b l) = if a = c then some b else mget c l
  | [] => by simp [mput, mget]
  | p :: l => by
    simp only [mput]
    by_cases h : p.1 = a
    · subst h
      simp only [if_pos, mget]
      split <;> rfl
    · simp only [if_neg h, mget, mget_mput a c b l]
      by_cases h2 : p.1 = c
      · have : a ≠ c := fun e => h (h2.trans e.symm)
        simp [h2, this]
      · simp [h2]
theorem mdel_sub {a : α} : ∀ {l : List (α × β)} {p}, p ∈ mdel a l → p ∈ l
  | [], _, h => h
  | q :: l, p, h => by
    simp only [mdel] at h
    split at h
    · exact List.mem_cons_of_mem _ h
    · rcases List.mem_cons.1 h with h | h
      · exact h ▸ List.mem_cons_self
      · exact List.mem_cons_of_mem _ (mdel_sub h)
theorem mdel_nodup {a : α} : ∀ {l : List (α × β)}, (l.map (·.1)).Nodup → ((mdel a l).map (·.1)).Nodup
  | [], h => h
  | q :: l, h => by
    simp only [List.map_cons, List.nodup_cons] at h
    simp only [mdel]
    split
    · exact h.2
    · simp only [List.map_cons, List.nodup_cons]
      exact ⟨fun hm => h.1 (by obtain ⟨x, hx, e⟩ := List.mem_map.1 hm; exact List.mem_map.2 ⟨x, mdel_sub hx, e⟩), mdel_nodup h.2⟩
theorem mget_mdel {a c : α} : ∀ {l : List (α × β)}, (l.map (·.1)).Nodup → mget c (mdel a l) = if a = c then none else mget c l
  | [], _ => by simp [mdel, mget]
  | q :: l, h => by
    simp only [List.map_cons, List.nodup_cons] at h
    simp only [mdel]
    by_cases e : q.1 = a
    · subst e
      simp only [if_pos, mget]
      by_cases e2 : q.1 = c
      · subst e2; simp only [if_pos]; exact mget_none.2 h.1
      · simp [e2]
    · simp only [if_neg e, mget, mget_mdel h.2]
      by_cases e2 : q.1 = c
      · have : a ≠ c := fun h => e (e2.trans h.symm)
        simp [e2, this]
      · simp [e2]
theorem mdel_none {a : α} : ∀ {l : List (α × β)}, mget a l = none → mdel a l = l
  | [], _ => rfl
  | q :: l, h => by
    simp only [mget] at h
    split at h
    · cases h
    · rename_i e; simp only [mdel, if_neg e, mdel_none h]
end
/-- A map's block: its entries, each stamped by when it came. -/
structure MpB {α β : Type} (ek : α → Value) (ev : β → Value) (w : World) (b : Nat) (es : List (α × β)) (ents : Array MapEntry) (clock : Nat) : Prop where
  blk : w.heap[b]? = some (.map ents clock)
  keys : ents.toList.map (·.key) = es.map (fun p => ek p.1)
  vals : ents.toList.map (·.val) = es.map (fun p => ev p.2)
  lt : ∀ e ∈ ents.toList, e.born < clock
  inc : (ents.toList.map (·.born)).Pairwise (· < ·)
  nd : (es.map (·.1)).Nodup
def Mp {α β : Type} (ek : α → Value) (ev : β → Value) (w : World) (m : Option Nat) (es : List (α × β)) : Prop :=
  (m = none ∧ es = []) ∨ ∃ b ents clock, m = some b ∧ MpB ek ev w b es ents clock
section
variable {α β : Type} {ek : α → Value} {ev : β → Value} {w w1 : World} {m : Option Nat} {es : List (α × β)}
theorem MpB.chg {S : Nat → Prop} {b : Nat} {ents : Array MapEntry} {clock : Nat} (h : MpB ek ev w b es ents clock) (x : Chg S w w1) (hn : ¬ S b) : MpB ek ev w1 b es ents clock :=
  ⟨x.get h.blk hn, h.keys, h.vals, h.lt, h.inc, h.nd⟩
theorem Mp.chg {S : Nat → Prop} (h : Mp ek ev w m es) (x : Chg S w w1) (hn : ∀ b, m = some b → ¬ S b) : Mp ek ev w1 m es := by
  rcases h with h | ⟨b, ents, clock, rfl, h⟩
  · exact .inl h
  · exact .inr ⟨b, ents, clock, rfl, h.chg x (hn b rfl)⟩
theorem Mp.ext (x : Ext w w1) (h : Mp ek ev w m es) : Mp ek ev w1 m es := h.chg x fun _ _ h => h
theorem Mp.nd (h : Mp ek ev w m es) : (es.map (·.1)).Nodup := by
  rcases h with ⟨_, rfl⟩ | ⟨b, ents, clock, rfl, h⟩
  · simp
  · exact h.nd
theorem Mp.lt {b : Nat} (h : Mp ek ev w (some b) es) : b < w.heap.size := by
  rcases h with ⟨h, _⟩ | ⟨b', ents, clock, h, hb⟩
  · cases h
  · cases h; exact lt_of_blk hb.blk
theorem Mp.nil : Mp ek ev w none [] := .inl ⟨rfl, rfl⟩
theorem Mp.new {b : Nat} (h : New w b (.map #[] 0) w1) : Mp ek ev w1 (some b) [] := .inr ⟨b, #[], 0, rfl, h.here, rfl, rfl, by simp, by simp, by simp⟩
variable [DecidableEq α]
theorem findR_get {a : α} : ∀ (l : List MapEntry) (es : List (α × β)) (i : Nat), l.map (·.key) = es.map (fun p => ek p.1) → l.map (·.val) = es.map (fun p => ev p.2) →
    (findR a l (es.map (·.1)) i = none ∧ mget a es = none) ∨ ∃ j b, findR a l (es.map (·.1)) i = some (i + j, ev b) ∧ mget a es = some b ∧ j < l.length ∧ (∀ v, (l.modify j fun e => { e with val := v }).map (·.val) = ((mput a b es).map fun p => ev p.2).set j v) ∧ (∀ c, (l.map (·.val)).set j (ev c) = (mput a c es).map (fun p => ev p.2)) ∧ (∀ c, (mput a c es).map (·.1) = es.map (·.1)) ∧ (l.map (·.key))[j]? = some (ek a) ∧
      (l.eraseIdx j).map (·.key) = (mdel a es).map (fun p => ek p.1) ∧ (l.eraseIdx j).map (·.val) = (mdel a es).map (fun p => ev p.2)
  | [], [], i, _, _ => .inl ⟨rfl, rfl⟩
  | [], p :: es, i, h, _ => by simp at h
  | e :: l, [], i, h, _ => by simp at h
  | e :: l, p :: es, i, hk, hv => by
    simp only [List.map_cons, List.cons.injEq] at hk hv
    simp only [List.map_cons, findR, mget]
    by_cases h : p.1 = a
    · subst h
      refine .inr ⟨0, p.2, by simp [hv.1], by simp, by simp, ?_, ?_, ?_, ?_, ?_, ?_⟩
      · intro v; simp [mput, hv.2]
      · intro c; simp [mput, hv.2]
      · intro c; simp [mput]
      · simp [hk.1]
      · simp [mdel, hk.2]
      · simp [mdel, hv.2]
    · rw [if_neg h, if_neg h]
      rcases findR_get (a := a) l es (i + 1) hk.2 hv.2 with ⟨h1, h2⟩ | ⟨j, b, h1, h2, h3, h4, h5, h6, h7, h8, h9⟩
      · exact .inl ⟨h1, h2⟩
      · refine .inr ⟨j + 1, b, by rw [h1]; simp; omega, h2, by simpa using h3, ?_, ?_, ?_, ?_, ?_, ?_⟩
        · intro v; simp [mput, h, h4 v, hv.1]
        · intro c; simp [mput, h, h5 c, hv.1]
        · intro c; simp [mput, h, h6 c]
        · simpa using h7
        · simp [mdel, h, h8, hk.1]
        · simp [mdel, h, h9, hv.1]
end
/-! The operations on maps. -/
section
variable {P : Program} {n : Nat} {f : Env} {w : World} {K : Env → World → Prop}
variable {ty : TypeId} {pos : String} {af : Array Edge} {d : Nat} {gd : Option (Nat × Bool)}
variable {α β : Type} [DecidableEq α] {ek : α → Value} {ev : β → Value} {m : Option Nat} {es : List (α × β)} {t kt et sz by' : Nat} {z0 : β}
theorem run_lookup (ht : P.underlying t = some (.map kt et)) (KE : KeyE P kt ek) (hi : TI P et (ev z0) sz by') (hm : Mp ek ev w m es) (a : α) (ok : Bool) :
    (Instr.lookup t (.map m) (ek a) ok).run P w = .ok (if ok then .tuple #[ev ((mget a es).getD z0), .bool (mget a es).isSome] else ev ((mget a es).getD z0)) w := by
  obtain ⟨i, hi, hz, _, _⟩ := hi.get
  rcases hm with ⟨rfl, rfl⟩ | ⟨b, ents, clock, rfl, h⟩
  · have := KE.find a [] [] w rfl
    simp only [findR] at this
    cases ok <;> simp [Instr.lookup, run_underlying ht, KE.check, this, zeroValue, typeInfo, hi, hz, mget]
  · have hf := KE.find a ents.toList (es.map (·.1)) w (by rw [h.keys]; simp)
    have hg : (getObj b).run P w = .ok (.map ents clock) w := by simp [getObj, Sem.run, h.blk]
    simp only [Instr.lookup]
    simp [run_underlying ht, hg, KE.check, hf]
    rcases findR_get (ek := ek) (ev := ev) (a := a) ents.toList es 0 h.keys h.vals with ⟨h1, h2⟩ | ⟨j, c, h1, h2, _⟩
    · rw [h1, h2]; cases ok <;> simp [zeroValue, typeInfo, hi, hz]
    · rw [h1, h2]; cases ok <;> simp
theorem r_lk {x y : Operand} {a : α} (ht : P.underlying t = some (.map kt et)) (KE : KeyE P kt ek) (hi : TI P et (ev z0) sz by') (hx : evn n f x = .map m) (hy : evn n f y = ek a) (hm : Mp ek ev w m es) :
    RV P n f w ⟨some d, .lookup t x y false, ty, pos, af, gd⟩ (ev ((mget a es).getD z0)) := by
  unfold RV
  simp only [execOp, hx, hy]
  simp [run_lookup ht KE hi hm a false]
theorem r_lko {x y : Operand} {a : α} (ht : P.underlying t = some (.map kt et)) (KE : KeyE P kt ek) (hi : TI P et (ev z0) sz by') (hx : evn n f x = .map m) (hy : evn n f y = ek a) (hm : Mp ek ev w m es) :
    RV P n f w ⟨some d, .lookup t x y true, ty, pos, af, gd⟩ (.tuple #[ev ((mget a es).getD z0), .bool (mget a es).isSome]) := by
  unfold RV
  simp only [execOp, hx, hy]
  simp [run_lookup ht KE hi hm a true]
set_option linter.unusedSectionVars false in
theorem r_len_m {x : Operand} {ats : Array TypeId} (hx : evn n f x = .map m) (ha : ats[0]? = some t) (ht : P.underlying t = some (.map kt et)) (hm : Mp ek ev w m es) :
    RV P n f w ⟨some d, .call { callee := .builtin .len, args := #[x], argTypes := ats }, ty, pos, af, gd⟩ (.int .i64 (es.length : Nat)) := by
  unfold RV
  rcases hm with ⟨rfl, rfl⟩ | ⟨b, ents, clock, rfl, h⟩
  · simp [execOp, hx, resolve, invoke, builtin, Builtin.len_, ha, run_underlying ht, goInt]
  · have hg : (getObj b).run P w = .ok (.map ents clock) w := by simp [getObj, Sem.run, h.blk]
    have hl : ents.size = es.length := by have := congrArg List.length h.keys; simpa using this
    simp [execOp, hx, resolve, invoke, builtin, Builtin.len_, ha, run_underlying ht, goInt, hg, hl]
def setObjW (w : World) (b : Nat) (o : Obj) : World := { w with heap := w.heap.setIfInBounds b o }
theorem setObj_chg (w : World) (b : Nat) (o : Obj) : Chg (fun c => c = b) w (setObjW w b o) :=
  ⟨rfl, rfl, rfl, by simp [setObjW], fun c _ hn => by simp only [setObjW]; rw [Array.getElem?_setIfInBounds_ne (fun e => hn e.symm)]⟩
theorem setObj_blk {b : Nat} {o o' : Obj} (h : w.heap[b]? = some o') : (setObjW w b o).heap[b]? = some o := by
  simp only [setObjW]; rw [Array.getElem?_setIfInBounds_self_of_lt (lt_of_blk h)]
theorem run_setObj {b : Nat} {o : Obj} {ents : Array MapEntry} {clock : Nat} (h : w.heap[b]? = some (.map ents clock)) : (setObj b o).run P w = .ok () (setObjW w b o) := by
  simp [setObj, Sem.run, h, setObjW]
theorem modify_val {ents : Array MapEntry} {j : Nat} {v : Value} : (ents.modify j fun e => { e with val := v }).toList.map (·.key) = ents.toList.map (·.key) ∧ (ents.modify j fun e => { e with val := v }).toList.map (·.born) = ents.toList.map (·.born) ∧ (ents.modify j fun e => { e with val := v }).toList.map (·.val) = (ents.toList.map (·.val)).set j v := by
  refine ⟨?_, ?_, ?_⟩ <;>
  · apply List.ext_getElem?
    intro i
    simp only [Array.toList_modify, List.getElem?_map, List.getElem?_modify, List.getElem?_set, List.length_map]
    by_cases h : j = i
    · subst h
      cases hj : ents.toList[j]? with
      | none => simp_all
      | some x =>
        have hlt : j < ents.size := by simpa using (List.getElem?_eq_some_iff.1 hj).1
        simp_all
    · cases hj : ents.toList[i]? <;> simp_all
/-- A key is there: its value is another. -/
theorem MpB.set {b : Nat} {ents : Array MapEntry} {clock j : Nat} {a : α} {c : β} (h : MpB ek ev w b es ents clock) (h5 : ∀ c, (ents.toList.map (·.val)).set j (ev c) = (mput a c es).map (fun p => ev p.2)) (h6 : ∀ c, (mput a c es).map (·.1) = es.map (·.1)) :
    MpB ek ev (setObjW w b (.map (ents.modify j fun e => { e with val := ev c }) clock)) b (mput a c es) (ents.modify j fun e => { e with val := ev c }) clock := by
  obtain ⟨m1, m2, m3⟩ := modify_val (ents := ents) (j := j) (v := ev c)
  refine ⟨setObj_blk h.blk, ?_, ?_, ?_, ?_, mput_nodup h.nd⟩
  · rw [m1, h.keys]
    have := h6 c
    have e : ∀ l : List (α × β), l.map (fun p => ek p.1) = (l.map (·.1)).map ek := fun l => by simp
    rw [e, e, this]
  · rw [m3, h5]
  · intro e he
    have hb : e.born ∈ ents.toList.map (·.born) := by rw [← m2]; exact List.mem_map.2 ⟨e, he, rfl⟩
    obtain ⟨e', h1, h2⟩ := List.mem_map.1 hb
    rw [← h2]; exact h.lt e' h1
  · rw [m2]; exact h.inc
theorem mput_none {a : α} {c : β} : ∀ {l : List (α × β)}, mget a l = none → mput a c l = l ++ [(a, c)]
  | [], _ => rfl
  | p :: l, h => by
    simp only [mget] at h
    split at h
    · cases h
    · rename_i e; simp [mput, e, mput_none h]
theorem MpB.add {b : Nat} {ents : Array MapEntry} {clock : Nat} {a : α} {c : β} (h : MpB ek ev w b es ents clock) (hn : mget a es = none) :
    MpB ek ev (setObjW w b (.map (ents.push { key := ek a, val := ev c, born := clock }) (clock + 1))) b (mput a c es) (ents.push { key := ek a, val := ev c, born := clock }) (clock + 1) := by
  refine ⟨setObj_blk h.blk, by simp [mput_none hn, h.keys], by simp [mput_none hn, h.vals], ?_, ?_, mput_nodup h.nd⟩
  · intro e he
    simp only [Array.toList_push, List.mem_append, List.mem_singleton] at he
    rcases he with he | rfl
    · exact Nat.lt_succ_of_lt (h.lt e he)
    · exact Nat.lt_succ_self _
  · simp only [Array.toList_push, List.map_append, List.map_cons, List.map_nil]
    rw [List.pairwise_append]
    refine ⟨h.inc, by simp, fun x hx y hy => ?_⟩
    simp at hy; subst hy
    obtain ⟨e, he, rfl⟩ := List.mem_map.1 hx
    exact h.lt e he
theorem run_mapUpdate {b : Nat} (ht : P.underlying t = some (.map kt et)) (KE : KeyE P kt ek) (hm : Mp ek ev w (some b) es) (a : α) (c : β) :
    ∃ w1, (Instr.mapUpdate t (.map (some b)) (ek a) (ev c)).run P w = .ok () w1 ∧ Mp ek ev w1 (some b) (mput a c es) ∧ Chg (fun x => x = b) w w1 := by
  rcases hm with ⟨h, _⟩ | ⟨b', ents, clock, h, hb⟩
  · cases h
  cases h
  have hf := KE.find a ents.toList (es.map (·.1)) w (by rw [hb.keys]; simp)
  have hg : (getObj b).run P w = .ok (.map ents clock) w := by simp [getObj, Sem.run, hb.blk]
  rcases findR_get (ek := ek) (ev := ev) (a := a) ents.toList es 0 hb.keys hb.vals with ⟨h1, h2⟩ | ⟨j, c', h1, h2, h3, _, h5, h6, h7, _⟩
  · refine ⟨_, ?_, .inr ⟨b, _, _, rfl, hb.add (c := c) h2⟩, setObj_chg w b _⟩
    simp only [Instr.mapUpdate]
    simp [run_underlying ht, hg, KE.check, hf, h1, run_setObj hb.blk]
  · refine ⟨_, ?_, .inr ⟨b, _, _, rfl, hb.set (a := a) (c := c) h5 h6⟩, setObj_chg w b _⟩
    have hk : ((ents[j]?).map (·.key)).getD (ek a) = ek a := by
      have : (ents.toList.map (·.key))[j]? = some (ek a) := h7
      simp only [List.getElem?_map, Array.getElem?_toList] at this
      rw [this]; rfl
    have hks : (Instr.keyThatStays (ek a) (ek a)).run P w = .ok (ek a) w := by simp [Instr.keyThatStays, KE.same]
    have hmod : (ents.modify j fun e => { e with key := ek a, val := ev c }) = (ents.modify j fun e => { e with val := ev c }) := by
      apply Array.ext'
      apply List.ext_getElem?
      intro i
      simp only [Array.toList_modify, List.getElem?_modify]
      by_cases e : j = i
      · subst e
        have : (ents.toList.map (·.key))[j]? = some (ek a) := h7
        simp only [List.getElem?_map] at this
        cases hj : ents.toList[j]? with
        | none => simp
        | some x => rw [hj] at this; simp at this; simp [this]
      · simp [e]
    simp only [Instr.mapUpdate]
    simp [run_underlying ht, hg, KE.check, hf, h1, hk, hks, hmod, run_setObj hb.blk]
theorem ok_mu {x y v : Operand} {a : α} {c : β} {b : Nat} (ht : P.underlying t = some (.map kt et)) (KE : KeyE P kt ek) (hx : evn n f x = .map (some b)) (hy : evn n f y = ek a) (hv : evn n f v = ev c) (hm : Mp ek ev w (some b) es)
    (h : ∀ w1, Mp ek ev w1 (some b) (mput a c es) → Chg (fun x => x = b) w w1 → K f w1) : OK P n ⟨none, .mapUpdate t x y v, ty, pos, af, gd⟩ f w K := by
  obtain ⟨w1, hr, h1, h2⟩ := run_mapUpdate ht KE hm a c
  refine ok_skip (w' := w1) ?_ (h w1 h1 h2)
  simp only [execOp, hx, hy, hv]
  simp [hr]
theorem ok_del {x y : Operand} {a : α} {ats : Array TypeId} (ha : ats[0]? = some t) (ht : P.underlying t = some (.map kt et)) (KE : KeyE P kt ek) (hx : evn n f x = .map m) (hy : evn n f y = ek a) (hm : Mp ek ev w m es)
    {dd : Option Nat} (h : ∀ w1, Mp ek ev w1 m (mdel a es) → Chg (fun x => m = some x) w w1 → K (updo f dd (.tuple #[])) w1) : OK P n ⟨dd, .call { callee := .builtin .delete, args := #[x, y], argTypes := ats }, ty, pos, af, gd⟩ f w K := by
  have key : ∃ w1, (Builtin.delete_ ats ty #[.map m, ek a]).run P w = .ok (.tuple #[]) w1 ∧ Mp ek ev w1 m (mdel a es) ∧ Chg (fun x => m = some x) w w1 := by
    rcases hm with ⟨rfl, rfl⟩ | ⟨b, ents, clock, rfl, hb⟩
    · exact ⟨w, by simp [Builtin.delete_, ha, run_underlying ht, KE.check], .inl ⟨rfl, rfl⟩, Chg.refl w⟩
    have hf := KE.find a ents.toList (es.map (·.1)) w (by rw [hb.keys]; simp)
    have hg : (getObj b).run P w = .ok (.map ents clock) w := by simp [getObj, Sem.run, hb.blk]
    have hch : ∀ o, Chg (fun x => some b = some x) w (setObjW w b o) := fun o => (setObj_chg w b o).mono fun x _ hx => by rw [hx]
    rcases findR_get (ek := ek) (ev := ev) (a := a) ents.toList es 0 hb.keys hb.vals with ⟨h1, h2⟩ | ⟨j, c', h1, h2, h3, _, _, _, _, h8, h9⟩
    · refine ⟨setObjW w b (.map ents clock), ?_, .inr ⟨b, ents, clock, rfl, ?_⟩, hch _⟩
      · simp only [Builtin.delete_]
        simp [ha, run_underlying ht, hg, KE.check, hf, h1, run_setObj hb.blk]
      · rw [mdel_none h2]; exact ⟨setObj_blk hb.blk, hb.keys, hb.vals, hb.lt, hb.inc, hb.nd⟩
    · have he : (ents.eraseIdxIfInBounds j).toList = ents.toList.eraseIdx j := by simp
      refine ⟨setObjW w b (.map (ents.eraseIdxIfInBounds j) clock), ?_, .inr ⟨b, _, clock, rfl, setObj_blk hb.blk, by rw [he]; exact h8, by rw [he]; exact h9, ?_, ?_, mdel_nodup hb.nd⟩, hch _⟩
      · simp only [Builtin.delete_]
        simp [ha, run_underlying ht, hg, KE.check, hf, h1, run_setObj hb.blk]
      · intro e h; rw [he] at h; exact hb.lt e (List.mem_of_mem_eraseIdx h)
      · rw [he]; exact hb.inc.sublist ((List.eraseIdx_sublist _ _).map _)
  obtain ⟨w1, hr, h1, h2⟩ := key
  refine ok_run (v := .tuple #[]) (w' := w1) ?_ (h w1 h1 h2)
  simp only [execOp, resolve, invoke, builtin]
  simp [hx, hy, hr]
theorem ok_mm {r : Option Operand} (h : ∀ b w1, New w b (.map #[] 0) w1 → K (upd f d (.map (some b))) w1) (hr : r = none) : OK P n ⟨some d, .makeMap t r, ty, pos, af, gd⟩ f w K := by
  subst hr
  refine ok_run (v := .map (some w.heap.size)) (w' := w.alloc (.map #[] 0)) ?_ (h _ _ (New.alloc w _))
  simp only [execOp, Instr.makeMap]
  simp
end
end Go.Proofs.Ytchjcjocihckpaa.G

/- What lies in memory, said of lists: rows of a slice, rows of one's own; numbers that stay within their kind. -/
namespace Go.Proofs.Ytchjcjocihckpaa.G
open Go Go.RowKit
/-! Numbers. -/
theorem wr64 {n : Int} (h : -9223372036854775808 ≤ n ∧ n < 9223372036854775808 := by omega) : IntKind.wrap .i64 n = n := by
  rw [IntKind.wrap_i64]; omega
theorem wr8 {n : Int} (h : 0 ≤ n ∧ n < 256 := by omega) : IntKind.wrap .u8 n = n := by
  rw [IntKind.wrap_u8]; omega
/-! Worlds. -/
section
variable {w w1 w2 w3 : World} {b : Nat} {S S' : Nat → Prop}
theorem Priv.then (h : Priv w b w1) (k : Chg (fun x => x = b) w1 w2) : Ext w w2 :=
  h.ext.trans k (fun _ _ h => h) (fun x hx he => by subst he; exact Nat.not_lt.2 h.fresh hx)
theorem New.then {o : Obj} (h : New w b o w1) (k : Chg (fun x => x = b) w1 w2) : Ext w w2 := h.priv.then k
theorem New.lt {o : Obj} (h : New w b o w1) : b < w1.heap.size := lt_of_blk h.here
/-- Blocks that were new at a world count for nothing from there on. -/
theorem Chg.of_new (h : Ext w w1) (k : Chg S w1 w2) (hs : ∀ b, S b → w.heap.size ≤ b) : Ext w w2 :=
  h.trans k (fun _ _ h => h) (fun x hx hS => by have := hs x hS; omega)
theorem Chg.keep (h : Chg S w w1) (hb : b < w.heap.size) (hn : ¬ S b) : w1.heap[b]? = w.heap[b]? := h.blk b hb hn
theorem Ext.keep (h : Ext w w1) (hb : b < w.heap.size) : w1.heap[b]? = w.heap[b]? := h.blk b hb id
end
/-! Rows that may be read. -/
structure Rows {α : Type} (w : World) (k : Nat) (enc : α → List Value) (s : Sl) (xs : List α) : Prop where
  len : s.n = xs.length
  lim : s.n ≤ 9223372036854775807
  cap : s.n ≤ s.c
  has : xs ≠ [] → ∃ b o, s.b = some ⟨b, o, none⟩
  row : ∀ b o, s.b = some ⟨b, o, none⟩ → ∀ i (h : i < xs.length), Cells w b (o + i * k) (enc xs[i])
section
variable {α : Type} {w w1 : World} {k : Nat} {enc : α → List Value} {s : Sl} {xs : List α} {S : Nat → Prop}
theorem Rows.chg (h : Rows w k enc s xs) (x : Chg S w w1) (hn : ∀ b, s.blk = some b → ¬ S b) : Rows w1 k enc s xs :=
  ⟨h.len, h.lim, h.cap, h.has, fun b o e i hi => Cells.chg x (hn b (by simp [Sl.blk, e])) (h.row b o e i hi)⟩
theorem Rows.ext (h : Rows w k enc s xs) (x : Ext w w1) : Rows w1 k enc s xs := h.chg x fun _ _ h => h
theorem Rows.base (h : Rows w k enc s xs) {i : Nat} (hi : i < s.n) : ∃ b o, s.b = some ⟨b, o, none⟩ := h.has (by rintro rfl; rw [h.len] at hi; simp at hi)
theorem Rows.get (h : Rows w k enc s xs) {i : Nat} (hi : i < s.n) : ∃ b o, s.b = some ⟨b, o, none⟩ ∧ ∃ h : i < xs.length, Cells w b (o + i * k) (enc xs[i]) := by
  obtain ⟨b, o, e⟩ := h.base hi
  exact ⟨b, o, e, h.len ▸ hi, h.row b o e i (h.len ▸ hi)⟩
theorem Rows.nil {c : Nat} : Rows w k enc ⟨none, 0, c⟩ [] := ⟨rfl, Nat.zero_le _, Nat.zero_le _, fun h => absurd rfl h, fun _ _ e => by cases e⟩
theorem Rows.take (h : Rows w k enc s xs) {m : Nat} (hm : m ≤ s.n) : Rows w k enc (s.sub 0 m k) (xs.take m) := by
  have hb : (s.sub 0 m k).b = s.b := by
    unfold Sl.sub; dsimp only; split
    · rfl
    · rcases s with ⟨_ | a, n, c⟩
      · rfl
      · simp [Addr.add]
  refine ⟨?_, ?_, ?_, fun hne => ?_, fun b o e i hi => ?_⟩
  · have := h.len; simp [Sl.sub]; omega
  · have := h.lim; simp [Sl.sub]; omega
  · have := h.cap; simp [Sl.sub]; omega
  · rw [hb]; exact h.has (fun e => hne (by simp [e]))
  · rw [hb] at e; simp only [List.length_take] at hi
    have := h.row b o e i (by omega)
    rwa [List.getElem_take]
end
/-! Rows of one's own. -/
def OwnL {α : Type} (w : World) (e k : Nat) (enc : α → List Value) (s : Sl) (xs : List α) : Prop := Own w e k s (xs.flatMap enc)
section
variable {α : Type} {w w1 : World} {e k : Nat} {enc : α → List Value} {s s1 : Sl} {xs : List α} {S : Nat → Prop}
theorem OwnL.chg (h : OwnL w e k enc s xs) (x : Chg S w w1) (hn : ∀ b, s.blk = some b → ¬ S b) : OwnL w1 e k enc s xs := by
  obtain ⟨h1, h2 | ⟨g, cap, cur, h2, h3, h4, h5⟩⟩ := h
  · exact ⟨h1, .inl h2⟩
  · refine ⟨h1, .inr ⟨g, cap, cur, h2, h3, x.get h4 (hn g ?_), h5⟩⟩
    rw [← Sl.own_blk, h2]; rfl
theorem OwnL.ext (h : OwnL w e k enc s xs) (x : Ext w w1) : OwnL w1 e k enc s xs := h.chg x fun _ _ h => h
theorem OwnL.nil : OwnL w e k enc ⟨none, 0, 0⟩ [] := ⟨by simp, .inl ⟨rfl, rfl⟩⟩
theorem OwnL.lt (h : OwnL w e k enc s xs) {b : Nat} (hb : s.blk = some b) : b < w.heap.size := by
  obtain ⟨h1, ⟨h2, h3⟩ | ⟨g, cap, cur, h2, h3, h4, h5⟩⟩ := h
  · rw [← Sl.own_blk, h2] at hb; cases hb
  · rw [← Sl.own_blk, h2] at hb; cases hb; exact lt_of_blk h4
theorem flat_len (hk : ∀ x, (enc x).length = k) : ∀ xs : List α, (xs.flatMap enc).length = xs.length * k
  | [] => by simp
  | x :: xs => by rw [List.flatMap_cons, List.length_append, hk, flat_len hk xs, List.length_cons, Nat.succ_mul]; omega
theorem flat_at (hk : ∀ x, (enc x).length = k) : ∀ (xs : List α) (i : Nat) (h : i < xs.length) (j : Nat), j < k → (xs.flatMap enc)[i * k + j]? = (enc xs[i])[j]?
  | x :: xs, 0, h, j, hj => by
    rw [List.flatMap_cons, Nat.zero_mul, Nat.zero_add, List.getElem?_append_left (by rw [hk]; exact hj)]; rfl
  | x :: xs, i + 1, h, j, hj => by
    rw [List.flatMap_cons, List.getElem?_append_right (by rw [hk, Nat.succ_mul]; omega), hk, show (i + 1) * k + j - k = i * k + j by rw [Nat.succ_mul]; omega]
    exact flat_at hk xs i (by simpa using h) j hj
theorem OwnL.len (h : OwnL w e k enc s xs) (hk : ∀ x, (enc x).length = k) (hk0 : 0 < k) : s.n = xs.length := by
  have := h.1; rw [flat_len hk] at this; exact (Nat.eq_of_mul_eq_mul_right hk0 this).symm
theorem OwnL.blk (h : OwnL w e k enc s xs) (hb : s.b ≠ none) : ∃ g cur, s.b = some ⟨g, 0, none⟩ ∧ w.heap[g]? = some (.cells cur e (0, 0)) ∧ s.n ≤ s.c ∧ s.c ≤ maxLen ∧ cur.size = s.c * k ∧ cur.toList.take (s.n * k) = xs.flatMap enc := by
  obtain ⟨h1, ⟨h2, h3⟩ | ⟨g, cap, cur, h2, h3, h4, h5, h6, h7, h8⟩⟩ := h
  · rcases s with ⟨b, n, c⟩; simp only [Sl.v, Value.slice.injEq] at h2; exact absurd h2.1 hb
  · rcases s with ⟨b, n, c⟩; simp only [Sl.v, Value.slice.injEq] at h2; obtain ⟨rfl, -, rfl⟩ := h2
    exact ⟨g, cur, rfl, h4, h5, h6, h7, h8⟩
theorem OwnL.cap (h : OwnL w e k enc s xs) : s.n ≤ s.c := by
  by_cases hb : s.b = none
  · obtain ⟨h1, ⟨h2, h3⟩ | ⟨g, cap, cur, h2, h3, h4, h5, h6, h7, h8⟩⟩ := h
    · omega
    · rcases s with ⟨b, n, c⟩; simp only [Sl.v, Value.slice.injEq] at h2; obtain ⟨rfl, -, rfl⟩ := h2; exact h5
  · obtain ⟨_, _, _, _, h, _⟩ := h.blk hb; exact h
theorem OwnL.lim (h : OwnL w e k enc s xs) : s.n ≤ 9223372036854775807 := by
  obtain ⟨h1, ⟨h2, h3⟩ | ⟨g, cap, cur, h2, h3, h4, h5, h6, h7, h8⟩⟩ := h
  · omega
  · have : maxLen = 9223372036854775807 := rfl
    omega
theorem OwnL.rows (h : OwnL w e k enc s xs) (hk : ∀ x, (enc x).length = k) (hk0 : 0 < k) : Rows w k enc s xs := by
  refine ⟨h.len hk hk0, h.lim, h.cap, fun hne => ?_, fun b o eb i hi => ?_⟩
  · have hl := h.len hk hk0
    have : s.b ≠ none := by
      intro hb
      obtain ⟨h1, ⟨h2, h3⟩ | ⟨g, cap, cur, h2, _⟩⟩ := h
      · rw [h3] at hl; exact hne (List.length_eq_zero_iff.1 hl.symm)
      · rcases s with ⟨b, n, c⟩; simp only [Sl.v, Value.slice.injEq] at h2; rw [h2.1] at hb; cases hb
    obtain ⟨g, cur, hb, _⟩ := h.blk this
    exact ⟨g, 0, hb⟩
  · have hl := h.len hk hk0
    obtain ⟨g, cur, hb, h4, h5, h6, h7, h8⟩ := h.blk (by rw [eb]; simp)
    rw [eb] at hb; cases hb
    refine Cells.of _ _ fun j v hj => cell_blk h4 ?_
    have hjk : j < k := by rw [← hk xs[i]]; exact (List.getElem?_eq_some_iff.1 hj).1
    have h9 := flat_at hk xs i hi j hjk
    rw [← h8, hj] at h9
    have h10 : i * k + j < s.n * k := by
      rw [hl]
      exact Nat.lt_of_lt_of_le (by rw [Nat.succ_mul]; omega : i * k + j < (i + 1) * k) (Nat.mul_le_mul_right _ hi)
    rw [List.getElem?_take_of_lt h10, Array.getElem?_toList] at h9
    rwa [Nat.zero_add]
theorem App.ownL {x : α} {v : List Value} (h : App w e k s (xs.flatMap enc) 1 v s1 w1) (hv : v = enc x := by rfl) : OwnL w1 e k enc s1 (xs ++ [x]) := by
  subst hv; have := h.own; unfold OwnL; rwa [List.flatMap_append, List.flatMap_singleton]
theorem App.lt {news xs : List Value} {m : Nat} (h : App w e k s xs m news s1 w1) {b : Nat} (hb : s1.blk = some b) : s.blk = some b ∨ w.heap.size ≤ b := by
  rcases h.loc with h | ⟨b', h, hl⟩
  · exact .inl (h ▸ hb)
  · rw [h] at hb; cases hb; exact .inr hl
/-- A block that was written out. -/
theorem Rows.lit {b c : Nat} {cs : Array Value} {t : TypeId} {fr : Nat × Nat} (h : w.heap[b]? = some (.cells cs t fr)) (hk : ∀ x, (enc x).length = k) (hcs : cs.toList = xs.flatMap enc := by rfl) (hl : xs.length ≤ c := by decide) (hc : c ≤ 9223372036854775807 := by decide) {n : Nat} (hn : n = xs.length := by rfl) :
    Rows w k enc ⟨some ⟨b, 0, none⟩, n, c⟩ xs := by
  subst hn
  refine ⟨rfl, by show xs.length ≤ _; omega, hl, fun _ => ⟨b, 0, rfl⟩, fun b' o e i hi => ?_⟩
  cases e
  refine Cells.of _ _ fun j v hj => cell_blk h ?_
  have hjk : j < k := by rw [← hk xs[i]]; exact (List.getElem?_eq_some_iff.1 hj).1
  have h9 := flat_at hk xs i hi j hjk
  rw [← hcs, hj, Array.getElem?_toList] at h9
  rwa [Nat.zero_add]
end
end Go.Proofs.Ytchjcjocihckpaa.G

/- A range over a function: the iterator's contract, the rounds, the ways out. -/
namespace Go.Proofs.Ytchjcjocihckpaa.G
open Go Go.RowKit
/-- What an iterator reads between two rounds lies as it lay. -/
def KF (Fp : Nat → Prop) (W W' : World) : Prop := ∀ b, Fp b → W'.heap[b]? = W.heap[b]?
/-- A function value that hands over one element after another. -/
def SeqC {α : Type} (P : Program) (v : Value) (encs : α → Array Value) (Fp : Nat → Prop) (S Sp : List α → Prop) (N : Nat) (w : World) : Prop :=
  ∃ gf lb, v = .func (.func gf) #[] lb ∧ Cal P gf ∧ (∀ b, Fp b → b < w.heap.size) ∧ SeqStopsK Fence.wide 0 P gf lb encs (KF Fp) S Sp N w
/-- How a round may end. -/
@[reducible] def bq {α : Type} (Fp : Nat → Prop) (I : List α → World → Prop) (X : Code → List α → World → Prop) (xs : List α) (W : World) : Exit → Env → World → Prop
  | .normal, _, W' => KeepsOthers W W' ∧ KF Fp W W' ∧ I xs W'
  | .ret, _, W' => KeepsOthers W W' ∧ X .ret xs W'
  | .exit id, _, W' => KeepsOthers W W' ∧ X (.exit id) xs W'
  | _, _, _ => False
/-- What a round begins with. -/
def Asg {α : Type} (P : Program) (n : Nat) (f : Env) (ps : Array Tmp) (encs : α → Array Value) (assign : Code) (e1 : α → Env) : Prop :=
  ∀ a, FM n f a → ∃ a1 : α → Act, (∀ x, FM n (e1 x) (a1 x)) ∧ ∀ (l : Nat) (x : α) (W : World) (K : Act → World → Prop), K (a1 x) W →
    assign.wpIn (Fr (some l)) 0 P (Exit.then K (fun _ _ _ => False)) { tmps := (ps.zip (encs x)).foldl (fun t (p, v) => t.setIfInBounds p v) a.tmps, defers := [] } W
section
variable {P : Program} {n : Nat} {Q : Exit → Env → World → Prop} {f : Env} {w : World}
theorem FM.set {a : Act} (h : FM n f a) (p : Nat) (v : Value) : FM n (upd (nm f []) p v) { tmps := a.tmps.setIfInBounds p v, defers := [] } := by
  have h2 : FM n (nm f []) { a with defers := [] } := ⟨rfl, h.sz, h.gt⟩
  exact h2.put (some p) v
theorem asg_skip {α : Type} {p : Nat} {enc : α → Value} : Asg P n f #[p] (fun x => #[enc x]) .skip fun x => upd (nm f []) p (enc x) :=
  fun a ha => ⟨fun x => { tmps := a.tmps.setIfInBounds p (enc x), defers := [] }, fun x => ha.set p (enc x), fun l x W K hK => wpIn_skip (by show K _ W; simpa using hK)⟩
theorem asg_one {α : Type} {p d id : Nat} {ty : TypeId} {pos : String} {af : Array Edge} {enc : α → Value} (hp : p < n) :
    Asg P n f #[p] (fun x => #[enc x]) (.region id #[⟨some d, .assign (.tmp p), ty, pos, af, none⟩] false) fun x => upd (upd (nm f []) p (enc x)) d (enc x) :=
  fun a ha => ⟨fun x => ({ tmps := a.tmps.setIfInBounds p (enc x), defers := [] } : Act).put (some d) (enc x), fun x => (ha.set p (enc x)).put (some d) (enc x), fun l x W K hK => by
    have hF := ha.set p (enc x)
    have hb : Nat.blt p n = true := by simpa using hp
    have hev : evn n (upd (nm f []) p (enc x)) (.tmp p) = enc x := by
      simp only [evn, hb, upd]; simp
    have hr : RV P n (upd (nm f []) p (enc x)) W ⟨some d, .assign (.tmp p), ty, pos, af, none⟩ (enc x) := by
      unfold RV; unfold execOp; simp [hev]
    refine wpIn_region_lit (l := [⟨some d, .assign (.tmp p), ty, pos, af, none⟩]) (wpListIn_plain rfl fun K' hK' => ?_)
    have e : (#[p].zip #[enc x]).foldl (fun t (q : Tmp × Value) => t.setIfInBounds q.1 q.2) a.tmps = a.tmps.setIfInBounds p (enc x) := by simp
    refine ⟨fun _ _ => trivial, ?_⟩
    show Oper.uponIn _ _ _ _ _ _ _ ((Oper.semAt (some l) (Act.eval { tmps := (#[p].zip #[enc x]).foldl (fun t (q : Tmp × Value) => t.setIfInBounds q.1 q.2) a.tmps, defers := [] }) _).run P W)
    rw [e, Oper.semAt_eq _ _ _ (fun c h => by cases h), show Act.eval { tmps := a.tmps.setIfInBounds p (enc x), defers := [] } = evn n (upd (nm f []) p (enc x)) from funext hF.ev, hr]
    exact hK' _ _ (wpListIn_nil hK)⟩
theorem cw_rf {α : Type} {g : Operand} {ps : Array Tmp} {assign body : Code} {v : Value} {encs : α → Array Value} {Fp : Nat → Prop} {S Sp : List α → Prop} {N : Nat} {e1 : α → Env}
    (hg : evn n f g = v) (hs : SeqC P v encs Fp S Sp N w) (hps : ∀ x, (encs x).size = ps.size) (has : Asg P n f ps encs assign e1)
    (I : List α → World → Prop) (X : Code → List α → World → Prop) (hI : OwnFrom w.heap.size I) (hX : ∀ c, OwnFrom w.heap.size (X c)) (h0 : I [] w)
    (hbody : ∀ (l : Nat) (pre : List α) (x : α) (W : World), I pre W → pre.length < N → CW (some l) P n body (bq Fp I X (pre ++ [x]) W) (e1 x) W)
    (hdone : ∀ (D : Nat) (xs : List α) (W : World), w.heap.size ≤ D → S xs → I xs W → W.heap[D]? = some (.deferred (some [])) → Q .normal (nm f (D :: f.ds)) W)
    (hret : ∀ (D : Nat) (pre : List α) (W : World), w.heap.size ≤ D → Sp pre → X .ret pre W → W.heap[D]? = some (.deferred (some [])) → Q .ret (nm f (D :: f.ds)) W)
    (hexit : ∀ (D : Nat) (id : Nat) (pre : List α) (W : World), w.heap.size ≤ D → Sp pre → X (.exit id) pre W → W.heap[D]? = some (.deferred (some [])) → Q (.exit id) (nm f (D :: f.ds)) W)
    (hother : ∀ c pre W, X c pre W → c = .ret ∨ ∃ id, c = .exit id) : CW none P n (.rangeFunc g ps assign body) Q f w := by
  refine ⟨fun a ha => ?_⟩
  obtain ⟨gf, lb, rfl, hc, hlt, hseq⟩ := hs
  obtain ⟨a1, hf1, has⟩ := has a ha
  obtain ⟨fn, hfn, hnn, hnb⟩ := hc
  have eg : ∀ (args : Array Value) (w : World), (callFunc gf args).run P w = .ok (.enter gf args) w := fun args w => by
    have hn' : ¬ fn.name = "runtime.NumGoroutine" := by simpa using hnn
    have hb' : ¬ fn.body = none := fun e => by simp [e] at hnb
    simp [callFunc, hfn, hn', hb']
  have hfm : ∀ D : Nat, FM n (nm f (D :: f.ds)) { a with defers := { target := .collected D, args := #[] } :: a.defers } := fun D => ⟨by simp [nm, ha.df, mark], ha.sz, ha.gt⟩
  have key : (Code.rangeFunc g ps assign body).wpIn Fence.wide 1 P (lift n Q) a w := by
    refine wpIn_rangeFunc_ownF rfl (by decide) ((ha.ev g).trans hg) trivial eg hseq (fun h k b hb => (k b hb).trans (h b hb))
      (fun W l o o' hl _ _ _ b hb => World.putObj_heap_other (fun e => by have := hlt b hb; omega)) (Below.refl _ w) hps I X hI hX h0 a1 (fun l x W K hK => has l x W K hK) ?_ ?_ ?_
    · intro l pre x W hi hl
      refine wpIn_mono ((hbody l pre x W hi hl).out _ (hf1 x)) fun e a' w' h => ?_
      cases e with
      | normal => obtain ⟨_, _, h⟩ := h; exact h
      | ret => obtain ⟨_, _, h⟩ := h; exact h
      | exit id => obtain ⟨_, _, h⟩ := h; exact h
      | goto t => obtain ⟨_, _, h⟩ := h; exact h.elim
      | panic c => exact h.elim
      | outgrown => exact h.elim
    · intro D xs W hD hS hi hk
      exact ⟨_, hfm D, hdone D xs W hD hS hi hk⟩
    · intro D c pre W hD hS hx hk
      rcases hother c pre W hx with rfl | ⟨id, rfl⟩
      · exact wpIn_ret ⟨_, hfm D, hret D pre W hD hS hx hk⟩
      · exact wpIn_exit ⟨_, hfm D, hexit D id pre W hD hS hx hk⟩
  exact wpIn_wide.2 (wpIn_wide.1 key)
/-- Whatever is no cells and none of some blocks lies as it lay. -/
structure KO (L : List Nat) (W W' : World) : Prop where
  size : W.heap.size ≤ W'.heap.size
  same : ∀ k o, W.heap[k]? = some o → o.isCells = false → k ∉ L → W'.heap[k]? = some o
theorem KO.of_chg {L : List Nat} {W W' : World} {T : Nat → Prop} (h : Chg T W W') (ht : ∀ b, b < W.heap.size → T b → b ∈ L) : KO L W W' :=
  ⟨h.size, fun k _ hk _ hn => h.get hk fun e => hn (ht k (lt_of_blk hk) e)⟩
theorem KO.keeps {L : List Nat} {W W' : World} (h : KO L W W') (hl : ∀ b ∈ L, ∃ cs t fr, W.heap[b]? = some (.cells cs t fr)) : KeepsOthers W W' :=
  ⟨h.size, fun k o hk ho => h.same k o hk ho fun hm => by
    obtain ⟨cs, t, fr, e⟩ := hl k hm
    rw [hk] at e; cases e; cases ho⟩
theorem cells_nil : ∀ b ∈ ([] : List Nat), ∃ cs t fr, w.heap[b]? = some (.cells cs t fr) := fun _ h => nomatch h
theorem cells_cons {b : Nat} {L : List Nat} {cs : Array Value} {t : TypeId} {fr : Nat × Nat} (h : w.heap[b]? = some (.cells cs t fr)) (hl : ∀ b ∈ L, ∃ cs t fr, w.heap[b]? = some (.cells cs t fr)) : ∀ c ∈ b :: L, ∃ cs t fr, w.heap[c]? = some (.cells cs t fr) :=
  fun c hc => by
    rcases List.mem_cons.1 hc with rfl | hc
    · exact ⟨_, _, _, h⟩
    · exact hl c hc
theorem own_cells {B b : Nat} {W W' : World} {row : Option Nat} {cs : Array Value} {t : TypeId} {fr : Nat × Nat} (h : W.heap[b]? = some (.cells cs t fr)) (hg : W.grownBy W' row) (hr : ∀ r, row = some r → B ≤ r ∧ ∃ o : Obj, W.heap[r]? = some o ∧ o.isCells = false) : W'.heap[b]? = some (.cells cs t fr) :=
  (Chg.of_grown hg).get h fun e => by
    obtain ⟨_, o, ho, hc⟩ := hr b e.symm
    rw [h] at ho; cases ho; cases hc
theorem own_low {B b : Nat} {W W' : World} {row : Option Nat} {o : Obj} (h : W.heap[b]? = some o) (hb : b < B) (hg : W.grownBy W' row) (hr : ∀ r, row = some r → B ≤ r ∧ ∃ o : Obj, W.heap[r]? = some o ∧ o.isCells = false) : W'.heap[b]? = some o :=
  (Chg.of_grown hg).get h fun e => by have := (hr b e.symm).1; omega
/-- What says no more of the world than that it has grown is as good behind a turn of the book-keeping. -/
theorem own_ext {β : Type} {w0 : World} {p : β → Prop} : OwnFrom w0.heap.size fun (s : β) (W : World) => Ext w0 W ∧ p s :=
  fun _ _ _ _ ⟨x, hp⟩ hg hr => ⟨Chg.of_new x (Chg.of_grown hg) fun b e => (hr b e.symm).1, hp⟩
end
end Go.Proofs.Ytchjcjocihckpaa.G

/- Entries of a map that are changed in place, and ranges over maps. -/
namespace Go.Proofs.Ytchjcjocihckpaa.G
open Go Go.RowKit
section
variable {α β : Type} [DecidableEq α] {ek : α → Value} {ev : β → Value} {w w1 : World}
/-- A map, with the stamp of the entry at a key. -/
def MpE (ek : α → Value) (ev : β → Value) (w : World) (b : Nat) (es : List (α × β)) (a : α) (st : Int) : Prop :=
  ∃ ents clock j e, MpB ek ev w b es ents clock ∧ ents.toList[j]? = some e ∧ (e.born : Int) = st ∧ (∀ c, (ents.toList.map (·.val)).set j (ev c) = (mput a c es).map (fun p => ev p.2)) ∧ ∀ c, (mput a c es).map (·.1) = es.map (·.1)
theorem MpE.chg {S : Nat → Prop} {b : Nat} {es : List (α × β)} {a : α} {st : Int} (h : MpE ek ev w b es a st) (x : Chg S w w1) (hn : ¬ S b) : MpE ek ev w1 b es a st := by
  obtain ⟨ents, clock, j, e, h1, h2⟩ := h
  exact ⟨ents, clock, j, e, h1.chg x hn, h2⟩
theorem MpE.mp {b : Nat} {es : List (α × β)} {a : α} {st : Int} (h : MpE ek ev w b es a st) : Mp ek ev w (some b) es := by
  obtain ⟨ents, clock, j, e, h1, h2⟩ := h
  exact .inr ⟨b, ents, clock, rfl, h1⟩
theorem mput_same {a : α} {b : β} : ∀ {l : List (α × β)}, mget a l = some b → mput a b l = l
  | [], h => by cases h
  | p :: l, h => by
    simp only [mget] at h
    simp only [mput]
    split at h
    · rename_i e; cases h; rw [if_pos e]; subst e; rfl
    · rename_i e; rw [if_neg e, mput_same h]
theorem mput_mput {a : α} {b c : β} : ∀ {l : List (α × β)}, mput a c (mput a b l) = mput a c l
  | [] => by simp [mput]
  | p :: l => by
    simp only [mput]
    by_cases e : p.1 = a
    · simp [e, mput]
    · simp [e, mput, mput_mput (l := l)]
end
theorem born_at {ents : Array MapEntry} {j : Nat} {e : MapEntry} (hp : (ents.toList.map (·.born)).Pairwise (· < ·)) (hj : ents.toList[j]? = some e) : ents.findIdx? (fun x => (x.born : Int) == (e.born : Int)) = some j := by
  rw [Array.findIdx?_eq_some_iff_getElem]
  obtain ⟨hl, he⟩ := List.getElem?_eq_some_iff.1 hj
  refine ⟨by simpa using hl, by subst he; simp, fun i hi => ?_⟩
  have hli : i < ents.toList.length := by omega
  have h1 := List.pairwise_iff_getElem.1 hp i j (by simpa using hli) (by simpa using hl) hi
  simp only [List.getElem_map] at h1
  rw [he] at h1
  have : ents.toList[i] = ents[i]'(by simpa using hli) := by simp
  rw [this] at h1
  simp; omega
section
variable {P : Program} {n : Nat} {f : Env} {w : World} {K : Env → World → Prop}
variable {ty : TypeId} {pos : String} {af : Array Edge} {d : Nat} {gd : Option (Nat × Bool)}
variable {α β : Type} [DecidableEq α] {ek : α → Value} {ev : β → Value} {m : Option Nat} {es : List (α × β)} {t kt et sz by' : Nat} {z0 : β}
theorem run_mapEntry {b : Nat} (ht : P.underlying t = some (.map kt et)) (KE : KeyE P kt ek) (hi : TI P et (ev z0) sz by') (hm : Mp ek ev w (some b) es) (a : α) :
    ∃ (w1 : World) (st : Int), (Instr.mapEntry t (.map (some b)) (ek a)).run P w = .ok (.tuple #[ev ((mget a es).getD z0), .int .i64 st]) w1 ∧ MpE ek ev w1 b (mput a ((mget a es).getD z0) es) a st ∧ Chg (fun x => x = b) w w1 := by
  obtain ⟨i, hi, hz, _, _⟩ := hi.get
  rcases hm with ⟨h, _⟩ | ⟨b', ents, clock, h, hb⟩
  · cases h
  cases h
  have hf := KE.find a ents.toList (es.map (·.1)) w (by rw [hb.keys]; simp)
  have hg : (getObj b).run P w = .ok (.map ents clock) w := by simp [getObj, Sem.run, hb.blk]
  rcases findR_get (ek := ek) (ev := ev) (a := a) ents.toList es 0 hb.keys hb.vals with ⟨h1, h2⟩ | ⟨j, c', h1, h2, h3, _, h5, h6, h7, _⟩
  · have hzv : (zeroValue et).run P w = .ok (ev z0) w := by simp [zeroValue, typeInfo, hi, hz]
    refine ⟨_, clock, ?_, ⟨_, _, es.length, { key := ek a, val := ev z0, born := clock }, by rw [h2]; exact hb.add (c := z0) h2, ?_, rfl, ?_, ?_⟩, setObj_chg w b _⟩
    · simp only [Instr.mapEntry]
      simp [run_underlying ht, hg, KE.check, hf, h1, run_setObj hb.blk, hzv, h2, goInt]
    · have hl : ents.toList.length = es.length := by have := congrArg List.length hb.keys; simpa using this
      rw [Array.toList_push, ← hl]; exact List.getElem?_concat_length
    · intro c
      have hl : ents.toList.length = es.length := by have := congrArg List.length hb.keys; simpa using this
      rw [h2, Option.getD_none, mput_mput, mput_none h2, Array.toList_push, List.map_append, List.map_append, List.set_append_right _ _ (by rw [List.length_map, hl]; exact Nat.le_refl _)]
      simp [hb.vals, hl]
    · intro c
      rw [h2, Option.getD_none, mput_mput, mput_none h2, mput_none h2]; simp
  · rw [h2, Option.getD_some, mput_same h2]
    have hj : ents.toList[j]? = some (ents.toList[j]'h3) := List.getElem?_eq_getElem h3
    have hk : ((ents[j]?).map (·.key)).getD (ek a) = ek a := by
      have : (ents.toList.map (·.key))[j]? = some (ek a) := h7
      simp only [List.getElem?_map, Array.getElem?_toList] at this
      rw [this]; rfl
    have hks : (Instr.keyThatStays (ek a) (ek a)).run P w = .ok (ek a) w := by simp [Instr.keyThatStays, KE.same]
    have hmod : (ents.modify j fun e => { e with key := ek a }) = ents := by
      apply Array.ext'
      apply List.ext_getElem?
      intro i
      simp only [Array.toList_modify, List.getElem?_modify]
      by_cases e : j = i
      · subst e
        have : (ents.toList.map (·.key))[j]? = some (ek a) := h7
        simp only [List.getElem?_map] at this
        cases hj : ents.toList[j]? with
        | none => simp
        | some x => rw [hj] at this; simp at this; simp [← this]
      · simp [e]
    have h3' : j < ents.size := by simpa using h3
    have hkey : (ents[j]'h3').key = ek a := by
      have : (ents.toList.map (·.key))[j]? = some (ek a) := h7
      simpa [h3'] using this
    refine ⟨setObjW w b (.map ents clock), ((ents.toList[j]'h3).born : Nat), ?_, ⟨ents, clock, j, _, ⟨setObj_blk hb.blk, hb.keys, hb.vals, hb.lt, hb.inc, hb.nd⟩, hj, rfl, h5, h6⟩, setObj_chg w b _⟩
    simp only [Instr.mapEntry]
    simp [run_underlying ht, hg, KE.check, hf, h1, hkey, hks, hmod, run_setObj hb.blk, goInt, h3']
theorem run_entryStore {b : Nat} {st : Int} {a : α} (hm : MpE ek ev w b es a st) (c : β) :
    ∃ w1, (Instr.entryStore t (.map (some b)) (.int .i64 st) (ev c)).run P w = .ok () w1 ∧ Mp ek ev w1 (some b) (mput a c es) ∧ Chg (fun x => x = b) w w1 := by
  obtain ⟨ents, clock, j, e, hb, hj, rfl, h5, h6⟩ := hm
  have hg : (getObj b).run P w = .ok (.map ents clock) w := by simp [getObj, Sem.run, hb.blk]
  have hf := born_at hb.inc hj
  refine ⟨_, ?_, .inr ⟨b, _, _, rfl, hb.set (a := a) (c := c) h5 h6⟩, setObj_chg w b _⟩
  simp only [Instr.entryStore]
  simp [hg, asInt, asIntOf, hf, run_setObj hb.blk]
theorem ok_me {x y : Operand} {a : α} {b : Nat} (ht : P.underlying t = some (.map kt et)) (KE : KeyE P kt ek) (hi : TI P et (ev z0) sz by') (hx : evn n f x = .map (some b)) (hy : evn n f y = ek a) (hm : Mp ek ev w (some b) es)
    (h : ∀ w1 st, MpE ek ev w1 b (mput a ((mget a es).getD z0) es) a st → Chg (fun x => x = b) w w1 → K (upd f d (.tuple #[ev ((mget a es).getD z0), .int .i64 st])) w1) : OK P n ⟨some d, .mapEntry t x y, ty, pos, af, gd⟩ f w K := by
  obtain ⟨w1, st, hr, h1, h2⟩ := run_mapEntry ht KE hi hm a
  refine ok_run (w' := w1) ?_ (h w1 st h1 h2)
  simp only [execOp, hx, hy]
  simp [hr]
theorem ok_es {x y v : Operand} {a : α} {c : β} {b : Nat} {st : Int} (hx : evn n f x = .map (some b)) (hy : evn n f y = .int .i64 st) (hv : evn n f v = ev c) (hm : MpE ek ev w b es a st)
    (h : ∀ w1, Mp ek ev w1 (some b) (mput a c es) → Chg (fun x => x = b) w w1 → K f w1) : OK P n ⟨none, .entryStore t x y v, ty, pos, af, gd⟩ f w K := by
  obtain ⟨w1, hr, h1, h2⟩ := run_entryStore (P := P) (t := t) hm c
  refine ok_skip (w' := w1) ?_ (h w1 h1 h2)
  simp only [execOp, hx, hy, hv]
  simp [hr]
end
/-! Ranges over maps. -/
section
variable {α β : Type} {ek : α → Value} {ev : β → Value}
/-- A range over a map under way: what the map holds, what is still to come, what came last. -/
def Itr (ek : α → Value) (ev : β → Value) (w : World) (r : Nat) (m : Option Nat) (es left : List (α × β)) (last : Option (α × β)) : Prop :=
  (m = none ∧ es = [] ∧ left = [] ∧ last = none ∧ ∃ s seen c, w.heap[r]? = some (.mapIter none s seen c)) ∨
  ∃ b ents clock since seen c0, m = some b ∧ MpB ek ev w b es ents clock ∧ w.heap[r]? = some (.mapIter (some b) since seen c0) ∧ (∀ x ∈ ents.toList, x.born < since) ∧ since ≤ c0 ∧ since ≤ clock ∧
    (leftOf ents seen).toList.map (·.key) = left.map (fun p => ek p.1) ∧ (leftOf ents seen).toList.map (·.val) = left.map (fun p => ev p.2) ∧
    ∀ p, last = some p → ∃ e ∈ ents.toList, seen.back? = some e.born ∧ e.key = ek p.1 ∧ e.val = ev p.2 ∧ clock = c0
variable {w w1 : World} {r : Nat} {m : Option Nat} {es left : List (α × β)} {last : Option (α × β)}
theorem Itr.chg {S : Nat → Prop} (h : Itr ek ev w r m es left last) (x : Chg S w w1) (hr : ¬ S r) (hn : ∀ b, m = some b → ¬ S b) : Itr ek ev w1 r m es left last := by
  rcases h with ⟨h1, h2, h3, h4, s, seen, c, h5⟩ | ⟨b, ents, clock, since, seen, c0, h1, h2, h3, h4⟩
  · exact .inl ⟨h1, h2, h3, h4, s, seen, c, x.get h5 hr⟩
  · exact .inr ⟨b, ents, clock, since, seen, c0, h1, h2.chg x (hn b h1), x.get h3 hr, h4⟩
theorem Itr.ext (h : Itr ek ev w r m es left last) (x : Ext w w1) : Itr ek ev w1 r m es left last := h.chg x id fun _ _ => id
theorem Itr.mp (h : Itr ek ev w r m es left last) : Mp ek ev w m es := by
  rcases h with ⟨h1, h2, _⟩ | ⟨b, ents, clock, since, seen, c0, h1, h2, _⟩
  · exact .inl ⟨h1, h2⟩
  · exact .inr ⟨b, ents, clock, h1, h2⟩
theorem Itr.lt (h : Itr ek ev w r m es left last) : r < w.heap.size := by
  rcases h with ⟨_, _, _, _, s, seen, c, h5⟩ | ⟨b, ents, clock, since, seen, c0, h1, h2, h3, h4⟩
  · exact lt_of_blk h5
  · exact lt_of_blk h3
theorem Itr.ne (h : Itr ek ev w r m es left last) : m ≠ some r := by
  rcases h with ⟨rfl, _⟩ | ⟨b, ents, clock, since, seen, c0, rfl, h2, h3, h4⟩
  · simp
  · intro e; cases e; have := h2.blk; rw [h3] at this; cases this
theorem Itr.sub (h : Itr ek ev w r m es left last) : left.length ≤ es.length := by
  rcases h with ⟨_, rfl, rfl, _⟩ | ⟨b, ents, clock, since, seen, c0, rfl, h2, h3, h4, h5, h5', h6, h7, h8⟩
  · simp
  · have e1 := congrArg List.length h6
    have e2 := congrArg List.length h2.keys
    simp only [List.length_map] at e1 e2
    rw [← e1, ← e2]
    unfold leftOf
    rw [Array.toList_filter]; exact List.length_filter_le _ _
variable {P : Program} {n : Nat} {f : Env} {K : Env → World → Prop}
variable {ty : TypeId} {pos : String} {af : Array Edge} {d : Nat} {gd : Option (Nat × Bool)} {t kt et : Nat}
theorem ok_rg {x : Operand} (ht : P.underlying t = some (.map kt et)) (hx : evn n f x = .map m) (hm : Mp ek ev w m es)
    (h : ∀ r w1, Ext w w1 → w.heap.size ≤ r → Itr ek ev w1 r m es es none → K (upd f d (.pointer (some ⟨r, 0, none⟩))) w1) : OK P n ⟨some d, .range t x, ty, pos, af, gd⟩ f w K := by
  rcases hm with ⟨rfl, rfl⟩ | ⟨b, ents, clock, rfl, hb⟩
  · refine ok_run (w' := w.alloc (.mapIter none 0 #[] 0)) ?_ (h w.heap.size _ (Ext.alloc w _) (Nat.le_refl _) (.inl ⟨rfl, rfl, rfl, rfl, 0, #[], 0, (New.alloc w _).here⟩))
    simp only [execOp, hx, Instr.range]
    simp [run_underlying ht]
  · have hN := New.alloc w (.mapIter (some b) clock #[] clock)
    refine ok_run (w' := w.alloc (.mapIter (some b) clock #[] clock)) ?_ (h w.heap.size _ hN.ext (Nat.le_refl _) (.inr ⟨b, ents, clock, clock, #[], clock, rfl, hb.chg hN.ext id, hN.here, hb.lt, Nat.le_refl _, Nat.le_refl _, ?_, ?_, fun p hp => by cases hp⟩))
    · simp only [execOp, hx]
      simp [run_range_map w t kt et b ents clock ht hb.blk]
    · have : leftOf ents #[] = ents := by unfold leftOf; simp
      rw [this]; exact hb.keys
    · have : leftOf ents #[] = ents := by unfold leftOf; simp
      rw [this]; exact hb.vals
theorem set_blk_chg (w : World) (r : Nat) (o : Obj) : Chg (fun c => c = r) w (Go.ChangeMaps.setBlock w r o) := by
  have : Go.ChangeMaps.setBlock w r o = setObjW w r o := rfl
  rw [this]; exact setObj_chg w r o
theorem map_erase {γ δ : Type} (f : γ → δ) (l : List γ) (i : Nat) : (l.eraseIdx i).map f = (l.map f).eraseIdx i := by
  simp [List.eraseIdx_eq_take_drop_succ, List.map_take, List.map_drop]
theorem ok_nx {x : Operand} (hx : evn n f x = .pointer (some ⟨r, 0, none⟩)) (hI : Itr ek ev w r m es left last)
    (h0 : left = [] → K (upd f d (.tuple #[.bool false])) w)
    (h1 : ∀ l1 p l2 w1, left = l1 ++ p :: l2 → Itr ek ev w1 r m es (l1 ++ l2) (some p) → Chg (fun c => c = r) w w1 → K (upd f d (.tuple #[.bool true, ek p.1, ev p.2])) w1) : OK P n ⟨some d, .next x false, ty, pos, af, gd⟩ f w K := by
  rcases hI with ⟨rfl, rfl, rfl, rfl, s, seen, c, h5⟩ | ⟨b, ents, clock, since, seen, c0, rfl, hb, hr, hold, hsc, hcl, hk, hv, hl⟩
  · refine ok_run (w' := w) ?_ (h0 rfl)
    simp only [execOp, hx, Instr.next]
    simp [getObj, Sem.run, h5, Result.andThen]
  rcases run_next_at (P := P) w ty r b since c0 seen ents clock hr hb.blk hold hsc with ⟨hz, hrun⟩ | ⟨e, he, wd, hwd, hrun⟩
  · have hle : left = [] := by
      have := congrArg List.length hk
      simp only [List.length_map, Array.length_toList, hz] at this
      exact List.length_eq_zero_iff.1 this.symm
    refine ok_run (w' := w) ?_ (h0 hle)
    simp only [execOp, hx]
    simp [hrun]
  · obtain ⟨i, hi⟩ := List.mem_iff_getElem?.1 he
    have hil := (List.getElem?_eq_some_iff.1 hi).1
    have hlen : (leftOf ents seen).toList.length = left.length := by have := congrArg List.length hk; simpa using this
    have hil' : i < left.length := by omega
    have hp : left[i]? = some left[i] := List.getElem?_eq_getElem hil'
    have hpk : e.key = ek left[i].1 := by
      have := congrArg (·[i]?) hk
      simp only [List.getElem?_map, hi, hp, Option.map_some, Option.some.injEq] at this; exact this
    have hpv : e.val = ev left[i].2 := by
      have := congrArg (·[i]?) hv
      simp only [List.getElem?_map, hi, hp, Option.map_some, Option.some.injEq] at this; exact this
    have hsp : left = left.take i ++ left[i] :: left.drop (i + 1) := by rw [List.getElem_cons_drop, List.take_append_drop]
    have xd : Ext w wd := by rcases hwd with rfl | rfl; exact Chg.refl _; exact Ext.drew _
    have hch : Chg (fun c => c = r) w (Go.ChangeMaps.setBlock wd r (.mapIter (some b) since (seen.push e.born) clock)) := (xd.chg).then (set_blk_chg wd r _)
    have hne : b ≠ r := fun e => by have := hb.blk; rw [e, hr] at this; cases this
    have hlo : (leftOf ents (seen.push e.born)).toList = (leftOf ents seen).toList.eraseIdx i := by
      have hem := mem_left he
      have e1 : (leftOf ents (seen.push e.born)).toList = (leftOf ents seen).toList.filter (fun x => x.born != e.born) := by
        unfold leftOf
        rw [Array.toList_filter, Array.toList_filter, List.filter_filter]
        congr 1; funext x
        simp only [Array.contains_push, Bool.not_or, bne]
        rw [Bool.and_comm]
      rw [e1]
      have hpw : ((leftOf ents seen).toList.map (·.born)).Pairwise (· < ·) := by
        unfold leftOf
        rw [Array.toList_filter]
        exact hb.inc.sublist (List.filter_sublist.map _)
      generalize (leftOf ents seen).toList = L at hi hil hpw
      clear hlen hk hv he e1 hp hpk hpv hsp hil' h0 h1 hl hem
      induction L generalizing i with
      | nil => simp at hil
      | cons y L ih =>
        simp only [List.map_cons, List.pairwise_cons] at hpw
        cases i with
        | zero =>
          simp only [List.getElem?_cons_zero, Option.some.injEq] at hi
          subst hi
          rw [List.filter_cons_of_neg (by simp), List.eraseIdx_cons_zero, List.filter_eq_self.2]
          intro x hx
          have := hpw.1 x.born (List.mem_map.2 ⟨x, hx, rfl⟩)
          simp; omega
        | succ i =>
          simp only [List.getElem?_cons_succ] at hi
          have hyl := hpw.1 e.born (List.mem_map.2 ⟨e, List.mem_of_getElem? hi, rfl⟩)
          rw [List.filter_cons_of_pos (by simp; omega), List.eraseIdx_cons_succ, ih i hi (List.getElem?_eq_some_iff.1 hi).1 hpw.2]
    have hdrop : left.take i ++ left.drop (i + 1) = left.eraseIdx i := by rw [List.eraseIdx_eq_take_drop_succ]
    have hrw : wd.heap[r]? = some (.mapIter (some b) since seen c0) := xd.get hr
    refine ok_run (w' := Go.ChangeMaps.setBlock wd r (.mapIter (some b) since (seen.push e.born) clock)) (v := .tuple #[.bool true, ek left[i].1, ev left[i].2]) ?_ (h1 (left.take i) left[i] (left.drop (i + 1)) _ hsp (.inr ⟨b, ents, clock, since, seen.push e.born, clock, rfl, hb.chg hch hne, ?_, hold, hcl, hcl, ?_, ?_, fun p hp => ?_⟩) hch)
    · simp only [execOp, hx]
      simp [hrun, hpk, hpv]
    · exact setObj_blk hrw
    · rw [hlo, hdrop, map_erase, hk, ← map_erase]
    · rw [hlo, hdrop, map_erase, hv, ← map_erase]
    · cases hp; exact ⟨e, (mem_left he).1, by simp, hpk, hpv, rfl⟩
theorem r_en {x : Operand} {p : α × β} (hx : evn n f x = .pointer (some ⟨r, 0, none⟩)) (hI : Itr ek ev w r m es left (some p)) : RV P n f w ⟨some d, .entry x, ty, pos, af, gd⟩ (.tuple #[ek p.1, ev p.2]) := by
  rcases hI with ⟨_, _, _, h, _⟩ | ⟨b, ents, clock, since, seen, c0, rfl, hb, hr, hold, hsc, hcl, hk, hv, hl⟩
  · cases h
  obtain ⟨e, he, hs, hk, hv, rfl⟩ := hl p rfl
  have hnd : (ents.toList.map (·.born)).Nodup := hb.inc.imp fun h => Nat.ne_of_lt h
  have hf : ents.find? (·.born == e.born) = some e := by rw [← Array.find?_toList]; exact find_born e ents.toList hnd he
  unfold RV
  simp only [execOp, hx, Instr.entry]
  simp [getObj, Sem.run, hr, hb.blk, hs, hf, hk, hv]
variable [DecidableEq α]
/-- What a deletion leaves of a range under way. -/
def Dl (ek : α → Value) (ev : β → Value) (w w1 : World) (m : Option Nat) (a : α) : Prop :=
  ∀ r es left last, Itr ek ev w r m es left last → Itr ek ev w1 r m (mdel a es) (mdel a left) none
end
end Go.Proofs.Ytchjcjocihckpaa.G

/- A text appended to a row of bytes. -/
namespace Go.Proofs.Ytchjcjocihckpaa.G
open Go Go.RowKit
/-- Where a row of bytes lies to which a text was appended. -/
theorem run_aps {P : Program} {w : World} {t u ty e : TypeId} {i : TypeInfo} (ht : P.underlying t = some (.slice e)) (hu : P.underlying u = some .string) (hi : P.info? e = some i) (hz : i.zero = some (.int .u8 0)) (hs : i.size = 1) (hb : i.bytes = 1)
    {s : Sl} {xs : List Value} (hown : Own w e 1 s xs) (q : ByteArray) (hq : s.n + q.size ≤ 140737488355328) :
    ∃ v' w', (Builtin.append_ #[t, u] ty #[s.v, .string q]).run P w = .ok v' w' ∧ w'.ownsRow 0 e 1 v' (s.n + q.size) (xs ++ Lib.strCells q) ∧ w.grownBy w' s.v.ownBlock ∧ (v' = .slice none 0 0 ↔ s.v = .slice none 0 0 ∧ q.size = 0) ∧ (v'.ownBlock = s.v.ownBlock ∨ ∃ b, v'.ownBlock = some b ∧ w.heap.size ≤ b) := by
  have hm : s.n + q.size ≤ maxLen := by unfold maxLen; omega
  obtain ⟨hl, ⟨e1, e2⟩ | ⟨g, cap, cur, e1, hbg, hg, hnc, hcm, hcs, htk⟩⟩ := hown
  · have e2' : s.n = 0 := e2
    have hx : xs.length = 0 * 1 := by rw [hl, e2']
    obtain ⟨v', w', h1, h2, h3, h4⟩ := Lib.run_append_own_string (P := P) (w := w) w.heap.size t u ty e i ht hu hi hz hs hb s.v s.n xs ⟨hl, .inl ⟨e1, e2⟩⟩ q hm hq (Nat.le_refl _)
    refine ⟨v', w', h1, ?_, h3, h4, ?_⟩
    · obtain ⟨a, b | ⟨g, cap, cur, b1, b2, b3⟩⟩ := h2
      · exact ⟨a, .inl b⟩
      · exact ⟨a, .inr ⟨g, cap, cur, b1, Nat.zero_le _, b3⟩⟩
    · obtain ⟨a, ⟨b, _⟩ | ⟨g, cap, cur, b1, b2, b3⟩⟩ := h2
      · left; rw [b, e1]
      · right; exact ⟨g, by rw [b1]; rfl, b2⟩
  · obtain ⟨v', w', h1, h2, h3, h4⟩ := Lib.run_append_own_string (P := P) (w := w) 0 t u ty e i ht hu hi hz hs hb s.v s.n xs ⟨hl, .inr ⟨g, cap, cur, e1, hbg, hg, hnc, hcm, hcs, htk⟩⟩ q hm hq (Nat.zero_le _)
    refine ⟨v', w', h1, h2, h3, h4, ?_⟩
    have hsb : s.v.ownBlock = some g := by rw [e1]; rfl
    rw [e1] at h1
    by_cases hroom : s.n + q.size ≤ cap
    · have hr := Lib.run_append_room_stringF (P := P) (w := w) t u ty e i ht hu hi hs g s.n cap cur (0, 0) hg (Nat.zero_le _) q hroom (by rw [hcs]; omega)
      rw [hr] at h1
      cases h1
      left; rw [hsb]; rfl
    · have hxl : xs.length = s.n * i.size := by rw [hs]; exact hl
      have holds : ∀ j u, xs[j]? = some u → w.cell? ((⟨g, 0, none⟩ : Addr).add j) = some u := by
        intro j u hj
        rw [add_at, Nat.zero_add]
        refine cell_blk hg ?_
        rw [← htk] at hj
        have hlt := (List.getElem?_eq_some_iff.1 hj).1
        rw [List.getElem?_take_of_lt (by simp at hlt; omega), Array.getElem?_toList] at hj
        exact hj
      have hr := Lib.run_append_grow_string (P := P) (w := w) t u ty e i (.int .u8 0) ht hu hi hz ⟨g, 0, none⟩ s.n cap xs hxl holds q (by omega) (by omega) (by rw [hb]; exact growslice_fits (by omega) (by omega))
      rw [hr] at h1
      cases h1
      right; exact ⟨_, rfl, Nat.le_refl _⟩
section
variable {P : Program} {n : Nat} {f : Env} {w : World} {K : Env → World → Prop}
variable {ty : TypeId} {pos : String} {af : Array Edge} {d : Nat} {gd : Option (Nat × Bool)}
theorem ok_aps {x y : Operand} {t u e : TypeId} {wv : World} {s : Sl} {xs : List Value} {q : ByteArray} (ht : P.underlying t = some (.slice e)) (hu : P.underlying u = some .string) (hi : TI P e (.int .u8 0) 1 1)
    (hx : evn n f x = s.v) (hy : evn n f y = .string q) (X : Ext wv w) (hown : Own wv e 1 s xs) (hb : s.n + q.size ≤ 140737488355328)
    (h : ∀ s' w1, App wv e 1 s xs q.size (q.data.toList.map byV) s' w1 → Chg (fun b => s.blk = some b) w w1 → K (upd f d s'.v) w1) :
    OK P n ⟨some d, .call { callee := .builtin .append, args := #[x, y], argTypes := #[t, u] }, ty, pos, af, gd⟩ f w K := by
  obtain ⟨i, hi, hz, hs, hby⟩ := hi.get
  obtain ⟨v', w', hr, ho, hg, hn, hloc⟩ := run_aps (P := P) (w := w) (ty := ty) ht hu hi hz hs hby (ownsRow_ext X hown) q hb
  obtain ⟨s', rfl, hsn, hnil⟩ := own_sl ho
  have hg' : Chg (fun b => s.blk = some b) w w' := (Chg.of_grown hg).mono fun b _ hb => by rw [← Sl.own_blk]; exact hb.symm
  refine ok_run (v := s'.v) (w' := w') ?_ (h s' w' ⟨by rw [hsn.symm] at ho; exact ho, hsn, Chg.pre X hg', ?_, ?_⟩ hg')
  · simp only [execOp, resolve, invoke, builtin]
    simp [hx, hy, hr]
  · rw [Sl.own_blk, Sl.own_blk] at hloc
    rcases hloc with h | ⟨b, h, h2⟩
    · exact .inl h
    · exact .inr ⟨b, h, Nat.le_trans X.size h2⟩
  · rw [hnil, hn]
    constructor
    · rintro ⟨h, h2⟩; exact ⟨by rcases s with ⟨b, _, _⟩; simp [Sl.v] at h; exact h.1, h2⟩
    · rintro ⟨h, h2⟩
      refine ⟨?_, h2⟩
      obtain ⟨_, h3 | ⟨g, cap, cur, h3, _⟩⟩ := hown
      · exact h3.1
      · rcases s with ⟨b, _, _⟩; simp [Sl.v] at h3 h; rw [h] at h3; simp at h3
end
end Go.Proofs.Ytchjcjocihckpaa.G
