/- Code, regions and operations, said of what the temporaries hold. -/
import Derived.Tactics
import Derived.OrdersHeld
import Derived.StillTail
import Derived.Below
import Derived.Laws.AppendOwn
import Derived.KernelRfl
import Derived.TacticsIn
import Derived.RangeFuncLeaves
import Derived.RangeFuncWrites
import Derived.RangeFuncCalls
import Derived.RangeFuncRecord
namespace Go.Proofs.Ytchjcjocihckpaa.G
open Go
/-- What the temporaries of a frame hold. -/
structure Env where
  val : Nat → Value
  ds : List Nat
def upd (f : Env) (d : Nat) (v : Value) : Env := ⟨fun t => cond (Nat.beq t d) v (f.val t), f.ds⟩
/-- The marks of the ranges over functions that were begun. -/
def nm (f : Env) (l : List Nat) : Env := ⟨f.val, l⟩
theorem kn {f : Env} {l : List Nat} (h : f.ds = l) : f = nm f l := by subst h; rfl
def mark (D : Nat) : Deferred := { target := .collected D, args := #[] }
def updo (f : Env) : Option Nat → Value → Env
  | some d, v => upd f d v
  | none, _ => f
structure FM (n : Nat) (f : Env) (a : Act) : Prop where
  df : a.defers = f.ds.map mark
  sz : a.tmps.size = n
  gt : ∀ t, t < n → a.tmps[t]? = some (f.val t)
def evn (n : Nat) (f : Env) : Operand → Value
  | .tmp t => cond (Nat.blt t n) (f.val t) undef
  | .const v => v
  | .global g => .pointer (some ⟨g, 0, none⟩)
  | .func k => .func (.func k) #[] #[]
theorem FM.ev {n : Nat} {f : Env} {a : Act} (h : FM n f a) (x : Operand) : a.eval x = evn n f x := by
  cases x with
  | tmp t =>
    simp only [Act.eval, evn]
    by_cases ht : t < n
    · have : Nat.blt t n = true := by simpa using ht
      rw [this]; simp [h.gt t ht]
    · have : Nat.blt t n = false := by
        cases hb : Nat.blt t n with
        | false => rfl
        | true => exact absurd (by simpa using hb) ht
      rw [this]
      have h2 : a.tmps.size ≤ t := by rw [h.sz]; exact Nat.not_lt.1 ht
      simp [Array.getElem?_eq_none h2]
  | _ => rfl
theorem FM.put {n : Nat} {f : Env} {a : Act} (h : FM n f a) (d : Option Nat) (v : Value) : FM n (updo f d v) (a.put d v) := by
  cases d with
  | none => exact h
  | some d =>
    refine ⟨h.df, by simp [Act.put, h.sz], fun t ht => ?_⟩
    simp only [Act.put, updo, upd]
    by_cases e : t = d
    · subst e
      have : Nat.beq t t = true := by simp
      rw [this, Array.getElem?_setIfInBounds_self_of_lt (by rw [h.sz]; exact ht)]; rfl
    · have : Nat.beq t d = false := by
        cases hb : Nat.beq t d with
        | false => rfl
        | true => exact absurd (Nat.eq_of_beq_eq_true hb) e
      rw [this, Array.getElem?_setIfInBounds_ne (fun h => e h.symm)]; exact h.gt t ht
theorem FM.start (args : Array Value) (n : Nat) (hn : args.size ≤ n) : FM n ⟨fun t => args.getD t undef, []⟩ { tmps := args ++ Array.replicate (n - args.size) undef, defers := [] } := by
  refine ⟨rfl, by simp; omega, fun t ht => ?_⟩
  by_cases h : t < args.size
  · simp [Array.getElem?_append, h]
  · have h2 : t - args.size < n - args.size := by omega
    simp [Array.getElem?_append, h, h2]
/-- A slot that is known may be written out. -/
theorem kp {f g : Env} {d : Nat} {v : Value} (h : f = g) (hv : f.val d = v) : f = upd g d v := by
  subst h; subst hv
  rcases f with ⟨f, ds⟩
  simp only [upd, Env.mk.injEq, and_true]
  funext t
  cases hb : Nat.beq t d with
  | false => rfl
  | true => rw [Nat.eq_of_beq_eq_true hb]; rfl
def lift (n : Nat) (Q : Exit → Env → World → Prop) : Exit → Act → World → Prop
  | .panic _, _, _ => False
  | .outgrown, _, _ => False
  | e, a, w => ∃ f, FM n f a ∧ Q e f w
/-- The fence that asks nothing, in a round or in none. -/
def Fr (r : Option Nat) : Fence := { Fence.wide with round := r }
theorem not_defer {P : Program} {ev : Operand → Value} {o : Oper} {w w' : World} {x : Next} (h : (execOp ev o).run P w = .ok x w') (hx : ∀ d, x ≠ .defer d) : ∀ c, o.op ≠ .defer c := by
  intro c hc
  unfold execOp at h
  rw [hc] at h
  simp only [Sem.run_bind] at h
  cases e : (resolve ev c o.type).run P w with
  | ok d w1 => rw [e] at h; simp at h; exact hx _ h.1.symm
  | halt q w1 => rw [e] at h; simp at h
/-- A piece of code, from a frame that holds 'f'. -/
structure CW (r : Option Nat) (P : Program) (n : Nat) (c : Code) (Q : Exit → Env → World → Prop) (f : Env) (w : World) : Prop where
  out : ∀ a, FM n f a → c.wpIn (Fr r) 0 P (lift n Q) a w
/-- The operations of a tail, one behind the other. -/
structure TL (P : Program) (n : Nat) (ops : Array Oper) (Q : Exit → Env → World → Prop) (l : List Oper) (f : Env) (w : World) : Prop where
  out : ∀ a, FM n f a → wpList P ops (lift n Q) l a w
/-- The operations of a region, one behind the other. -/
structure SL (r : Option Nat) (P : Program) (n : Nat) (ops : Array Oper) (Q : Exit → Env → World → Prop) (l : List Oper) (f : Env) (w : World) : Prop where
  out : ∀ a, FM n f a → wpListIn (Fr r) 0 P ops (lift n Q) l a w
section
variable {r : Option Nat} {P : Program} {n : Nat} {Q : Exit → Env → World → Prop} {f : Env} {w : World}
@[reducible] def thn (K : Env → World → Prop) (Q : Exit → Env → World → Prop) : Exit → Env → World → Prop
  | .normal, f, w => K f w
  | e, f, w => Q e f w
@[reducible] def inb (id : Nat) (Q : Exit → Env → World → Prop) : Exit → Env → World → Prop
  | .exit id', f, w => cond (Nat.beq id' id) (Q .normal f w) (Q (.exit id') f w)
  | e, f, w => Q e f w
theorem cw_mono {c : Code} {Q' : Exit → Env → World → Prop} (h : CW r P n c Q f w) (hq : ∀ e f w, Q e f w → Q' e f w) : CW r P n c Q' f w :=
  ⟨fun a ha => wpIn_mono (h.out a ha) fun e _ w hl => by
    cases e <;> first | exact hl | (obtain ⟨f, hf, hQ⟩ := hl; exact ⟨f, hf, hq _ f w hQ⟩)⟩
theorem cw_seq {x y : Code} (h : CW r P n x (thn (CW r P n y Q) Q) f w) : CW r P n (.seq x y) Q f w :=
  ⟨fun a ha => wpIn_seq (wpIn_mono (h.out a ha) fun e a w hl => by
    cases e <;> first | exact hl | (obtain ⟨f, hf, hc⟩ := hl; exact hc.out a hf))⟩
theorem cw_mid (M : Env → World → Prop) {x y : Code} (h : CW r P n x (thn M Q) f w) (hM : ∀ f w, M f w → CW r P n y Q f w) : CW r P n (.seq x y) Q f w :=
  cw_seq (cw_mono h fun e f w h => by cases e <;> first | exact hM _ _ h | exact h)
theorem cw_skip (h : Q .normal f w) : CW r P n .skip Q f w := ⟨fun _ ha => wpIn_skip ⟨f, ha, h⟩⟩
theorem cw_exit {id : Nat} (h : Q (.exit id) f w) : CW r P n (.exit id) Q f w := ⟨fun _ ha => wpIn_exit ⟨f, ha, h⟩⟩
theorem cw_ret (h : Q .ret f w) : CW r P n .ret Q f w := ⟨fun _ ha => wpIn_ret ⟨f, ha, h⟩⟩
theorem cw_cond {c : Operand} {x y : Code} {b : Bool} (hc : evn n f c = .bool b) (h1 : b = true → CW r P n x Q f w) (h2 : b = false → CW r P n y Q f w) : CW r P n (.cond c x y) Q f w :=
  ⟨fun a ha => wpIn_cond_split ((ha.ev c).trans hc) (fun h => (h1 h).out a ha) (fun h => (h2 h).out a ha)⟩
theorem cw_ct {c : Operand} {x y : Code} {b : Bool} (hc : evn n f c = .bool b) (hb : b = true) (h1 : CW r P n x Q f w) : CW r P n (.cond c x y) Q f w :=
  cw_cond hc (fun _ => h1) (fun h => by rw [hb] at h; cases h)
theorem cw_cf {c : Operand} {x y : Code} {b : Bool} (hc : evn n f c = .bool b) (hb : b = false) (h1 : CW r P n y Q f w) : CW r P n (.cond c x y) Q f w :=
  cw_cond hc (fun h => by rw [hb] at h; cases h) (fun _ => h1)
theorem cw_block {id : Nat} {c : Code} (h : CW r P n c (inb id Q) f w) : CW r P n (.block id c) Q f w :=
  ⟨fun a ha => wpIn_block (wpIn_mono (h.out a ha) fun e a w hl => by
    cases e with
    | exit id' =>
      obtain ⟨f, hf, hQ⟩ := hl
      simp only [inb] at hQ
      simp only [Exit.inBlock]
      by_cases e : id' = id
      · rw [if_pos e]; subst e; exact ⟨f, hf, by simpa using hQ⟩
      · rw [if_neg e]
        have : Nat.beq id' id = false := by
          cases hb : Nat.beq id' id with
          | false => rfl
          | true => exact absurd (Nat.eq_of_beq_eq_true hb) e
        rw [this] at hQ
        exact ⟨f, hf, hQ⟩
    | _ => exact hl)⟩
theorem cw_bmid (M : Env → World → Prop) {id : Nat} {c : Code} (h : CW r P n c (inb id (thn M Q)) f w) (hM : ∀ f w, M f w → Q .normal f w) : CW r P n (.block id c) Q f w :=
  cw_block (cw_mono h fun e f w h => by
    cases e with
    | normal => exact hM _ _ h
    | exit id' =>
      simp only [inb] at h ⊢
      cases hb : Nat.beq id' id with
      | true => rw [hb] at h; exact hM _ _ h
      | false => rw [hb] at h; exact h
    | _ => exact h)
theorem least_exists {p : Nat → Prop} (h : ∃ m, p m) : ∃ m, p m ∧ ∀ k, p k → m ≤ k := by
  obtain ⟨m, hm⟩ := h
  induction m using Nat.strongRecOn with
  | _ m ih =>
    by_cases hk : ∃ k, k < m ∧ p k
    · obtain ⟨k, hk, hp⟩ := hk; exact ih k hk hp
    · exact ⟨m, hm, fun k hp => by
        rcases Nat.lt_or_ge k m with h | h
        · exact absurd ⟨k, h, hp⟩ hk
        · exact h⟩
open Classical in
noncomputable def least (p : Nat → Prop) : Nat := if h : ∃ m, p m then (least_exists h).choose else 0
theorem least_spec {p : Nat → Prop} {m : Nat} (h : p m) : p (least p) ∧ least p ≤ m := by
  have hx : ∃ m, p m := ⟨m, h⟩
  simp only [least, hx, dif_pos]
  exact ⟨(least_exists hx).choose_spec.1, (least_exists hx).choose_spec.2 m h⟩
theorem cw_loop {c : Code} {σ : Type} (F : σ → Env → Env) (I : σ → World → Prop) (μ : σ → World → Nat) (s : σ) (g : Env) (hf : f = F s g) (h0 : I s w)
    (round : ∀ (s : σ) (g : Env) (w : World), I s w → CW r P n c (thn (fun f' w' => ∃ s' g', f' = F s' g' ∧ I s' w' ∧ μ s' w' < μ s w) Q) (F s g) w) : CW r P n (.loop c) Q f w := by
  subst hf
  refine ⟨fun a ha => ?_⟩
  refine wpIn_loop (fun a w => ∃ m s g, FM n (F s g) a ∧ I s w ∧ μ s w = m) (fun a w => least (fun m => ∃ s g, FM n (F s g) a ∧ I s w ∧ μ s w = m)) ⟨_, s, g, ha, h0, rfl⟩ ?_
  rintro a w ⟨m, hm⟩
  obtain ⟨hl, _⟩ := least_spec (p := fun m => ∃ s g, FM n (F s g) a ∧ I s w ∧ μ s w = m) hm
  obtain ⟨s, g, ha, hI, he⟩ := hl
  refine wpIn_mono ((round s g w hI).out a ha) fun e a' w' h => ?_
  cases e with
  | normal =>
    obtain ⟨f', ha', s', g', rfl, hI', hlt⟩ := h
    refine ⟨⟨_, s', g', ha', hI', rfl⟩, ?_⟩
    have := (least_spec (p := fun m => ∃ s g, FM n (F s g) a' ∧ I s w' ∧ μ s w' = m) ⟨s', g', ha', hI', rfl⟩).2
    rw [← he]; exact Nat.lt_of_le_of_lt this hlt
  | _ => exact h
/-! One operation. -/
structure OK (P : Program) (n : Nat) (o : Oper) (f : Env) (w : World) (K : Env → World → Prop) : Prop where
  out : (∃ v w', (execOp (evn n f) o).run P w = .ok (.value v) w' ∧ K (updo f o.dst v) w') ∨ (∃ w', (execOp (evn n f) o).run P w = .ok .skip w' ∧ K (updo f o.dst undef) w') ∨
    ∃ k args w', (execOp (evn n f) o).run P w = .ok (.enter k args) w' ∧ Calls P k args w' fun e w'' => ∃ v, e = .returned v ∧ K (updo f o.dst v) w''
theorem OK.wp {P : Program} {n : Nat} {o : Oper} {f : Env} {w : World} {K : Env → World → Prop} (h : OK P n o f w K) (a : Act) (ha : FM n f a) (K' : Act → World → Prop) (Q' : Exit → Act → World → Prop) (hK : ∀ a' f' w', FM n f' a' → K f' w' → K' a' w') : o.wp P a w K' Q' := by
  have e : a.eval = evn n f := funext ha.ev
  rcases h.out with ⟨v, w', hr, hk⟩ | ⟨w', hr, hk⟩ | ⟨k, args, w', hr, hk⟩
  · unfold Oper.wp; rw [e, hr]; exact hK _ _ _ (ha.put _ _) hk
  · unfold Oper.wp; rw [e, hr]; exact hK _ _ _ (ha.put _ _) hk
  · unfold Oper.wp; rw [e, hr]
    exact hk.mono fun e w'' ⟨v, he, hs⟩ => by subst he; exact hK _ _ _ (ha.put _ _) hs
theorem OK.wpIn {r : Option Nat} {P : Program} {n : Nat} {o : Oper} {f : Env} {w : World} {K : Env → World → Prop} (h : OK P n o f w K) (a : Act) (ha : FM n f a) (K' : Act → World → Prop) (Q' : Exit → Act → World → Prop) (hK : ∀ a' f' w', FM n f' a' → K f' w' → K' a' w') : o.wpIn (Fr r) 0 P a w K' Q' := by
  have e : a.eval = evn n f := funext ha.ev
  refine ⟨fun _ _ => trivial, ?_⟩
  rw [e]
  rcases h.out with ⟨v, w', hr, hk⟩ | ⟨w', hr, hk⟩ | ⟨k, args, w', hr, hk⟩
  · rw [Oper.semAt_eq _ _ _ (not_defer hr fun d h => by cases h), hr]; exact hK _ _ _ (ha.put _ _) hk
  · rw [Oper.semAt_eq _ _ _ (not_defer hr fun d h => by cases h), hr]; exact hK _ _ _ (ha.put _ _) hk
  · rw [Oper.semAt_eq _ _ _ (not_defer hr fun d h => by cases h), hr]
    refine ⟨(fun h => nomatch h), ?_⟩
    have hc : CallsIn (Fr r) 0 P k args w' fun e w'' => ∃ v, e = .returned v ∧ K (updo f o.dst v) w'' := callsIn_wide (n := 0).2 hk
    exact hc.mono fun e w'' ⟨v, he, hs⟩ => by subst he; exact hK _ _ _ (ha.put _ _) hs
/-- An operation that yields a value and leaves the world alone. -/
def RV (P : Program) (n : Nat) (f : Env) (w : World) (o : Oper) (v : Value) : Prop := (execOp (evn n f) o).run P w = .ok (.value v) w
theorem RV.cast {P : Program} {n : Nat} {f : Env} {w : World} {o : Oper} {v v' : Value} (e : v' = v) (h : RV P n f w o v) : RV P n f w o v' := e ▸ h
variable {o : Oper} {K : Env → World → Prop}
theorem ok_run {v : Value} {w' : World} (hr : (execOp (evn n f) o).run P w = .ok (.value v) w') (h : K (updo f o.dst v) w') : OK P n o f w K := ⟨.inl ⟨v, w', hr, h⟩⟩
theorem ok_v {v : Value} (hr : RV P n f w o v) (h : K (updo f o.dst v) w) : OK P n o f w K := ok_run hr h
theorem ok_skip {w' : World} (hr : (execOp (evn n f) o).run P w = .ok .skip w') (h : K (updo f o.dst undef) w') : OK P n o f w K := ⟨.inr (.inl ⟨w', hr, h⟩)⟩
theorem ok_enter {k : FuncId} {args : Array Value} {w' : World} (hr : (execOp (evn n f) o).run P w = .ok (.enter k args) w')
    (h : Calls P k args w' fun e w'' => ∃ v, e = .returned v ∧ K (updo f o.dst v) w'') : OK P n o f w K := ⟨.inr (.inr ⟨k, args, w', hr, h⟩)⟩
/-! An operation that calls a function value: one that was handed in, or a round. -/
structure OY (P : Program) (n : Nat) (o : Oper) (f : Env) (w : World) (K : Env → World → Prop) : Prop where
  out : (∃ k args, (execOp (evn n f) o).run P w = .ok (.enter k args) w ∧ Calls P k args w fun e w' => ∃ v, e = .returned v ∧ K (updo f o.dst v) w') ∨
    ∃ l fn tm as bd, (execOp (evn n f) o).run P w = .ok (.round l fn tm as bd) w ∧ RoundIn Fence.wide 0 P l fn tm as bd w fun e w' => ∃ v, e = .returned v ∧ K (updo f o.dst v) w'
theorem OY.wpIn {r : Option Nat} {P : Program} {n : Nat} {o : Oper} {f : Env} {w : World} {K : Env → World → Prop} (h : OY P n o f w K) (a : Act) (ha : FM n f a) (K' : Act → World → Prop) (Q' : Exit → Act → World → Prop) (hK : ∀ a' f' w', FM n f' a' → K f' w' → K' a' w') : o.wpIn (Fr r) 0 P a w K' Q' := by
  have e : a.eval = evn n f := funext ha.ev
  refine ⟨fun _ _ => trivial, ?_⟩
  rw [e]
  rcases h.out with ⟨k, args, hr, hk⟩ | ⟨l, fn, tm, as, bd, hr, hk⟩
  · rw [Oper.semAt_eq _ _ _ (not_defer hr fun d h => by cases h), hr]
    refine ⟨(fun h => nomatch h), ?_⟩
    have hc : CallsIn (Fr r) 0 P k args w fun e w'' => ∃ v, e = .returned v ∧ K (updo f o.dst v) w'' := callsIn_wide (n := 0).2 hk
    exact hc.mono fun e w'' ⟨v, he, hs⟩ => by subst he; exact hK _ _ _ (ha.put _ _) hs
  · rw [Oper.semAt_eq _ _ _ (not_defer hr fun d h => by cases h), hr]
    refine ⟨(fun h => nomatch h), ?_⟩
    have hc : RoundIn (Fr r) 0 P l fn tm as bd w fun e w'' => ∃ v, e = .returned v ∧ K (updo f o.dst v) w'' := hk
    exact hc.mono fun e w'' ⟨v, he, hs⟩ => by subst he; exact hK _ _ _ (ha.put _ _) hs
/-! A region that keeps its order. -/
variable {ops : Array Oper} {rest : List Oper}
theorem cw_region {id : Nat} {l : List Oper} (h : SL r P n l.toArray Q l f w) : CW r P n (.region id l.toArray false) Q f w := ⟨fun a ha => wpIn_region_lit (h.out a ha)⟩
theorem sl_nil (h : Q .normal f w) : SL r P n ops Q [] f w := ⟨fun _ ha => wpListIn_nil ⟨f, ha, h⟩⟩
theorem sl_op (hg : o.guard = none) (h : OK P n o f w (SL r P n ops Q rest)) : SL r P n ops Q (o :: rest) f w :=
  ⟨fun a ha => wpListIn_plain hg fun _ hK => h.wpIn a ha _ _ fun a' _ w' ha' hs => hK a' w' (hs.out a' ha')⟩
theorem sl_v {v : Value} (hg : o.guard = none) (hr : RV P n f w o v) (h : SL r P n ops Q rest (updo f o.dst v) w) : SL r P n ops Q (o :: rest) f w := sl_op hg (ok_v hr h)
theorem yl {a : Act} (ha : FM n f a) {j t : Nat} {b : Bool} (hj : (ops[j]?).bind (·.dst) = some t) (hb : evn n f (.tmp t) = .bool b) : yielded ops a.tmps j = some b := by
  have h1 := (ha.ev (.tmp t)).trans hb
  simp only [Act.eval] at h1
  unfold yielded
  rw [hj]
  simp only [Option.bind_some]
  cases h2 : a.tmps[t]? with
  | none => simp [h2, undef] at h1
  | some v => simp [h2] at h1; rw [h1]
theorem sl_g {j t : Nat} {b c : Bool} (hg : o.guard = some (j, c)) (hj : (ops[j]?).bind (·.dst) = some t) (hb : evn n f (.tmp t) = .bool b) (hc : b = c) (h : OK P n o f w (SL r P n ops Q rest)) : SL r P n ops Q (o :: rest) f w :=
  ⟨fun a ha => wpListIn_step fun _ hK => by
    rw [if_pos (by simp [Region.wanted, hg, yl ha hj hb, hc])]
    exact h.wpIn a ha _ _ fun a' _ w' ha' hs => hK a' w' (hs.out a' ha')⟩
theorem sl_vg {v : Value} {j t : Nat} {b c : Bool} (hg : o.guard = some (j, c)) (hj : (ops[j]?).bind (·.dst) = some t) (hb : evn n f (.tmp t) = .bool b) (hc : b = c) (hr : RV P n f w o v) (h : SL r P n ops Q rest (updo f o.dst v) w) : SL r P n ops Q (o :: rest) f w :=
  sl_g hg hj hb hc (ok_v hr h)
theorem sl_no {j t : Nat} {b c : Bool} (hg : o.guard = some (j, c)) (hj : (ops[j]?).bind (·.dst) = some t) (hb : evn n f (.tmp t) = .bool b) (hc : b = !c) (h : SL r P n ops Q rest (updo f o.dst undef) w) : SL r P n ops Q (o :: rest) f w :=
  ⟨fun a ha => wpListIn_step fun _ hK => by
    rw [if_neg (by simp [Region.wanted, hg, yl ha hj hb, hc])]
    exact ⟨fun _ _ => trivial, hK _ _ (h.out _ (ha.put _ _))⟩⟩
theorem yu {a : Act} (ha : FM n f a) {j t : Nat} (hj : (ops[j]?).bind (·.dst) = some t) (hb : evn n f (.tmp t) = undef) : yielded ops a.tmps j = none := by
  have h1 := (ha.ev (.tmp t)).trans hb
  simp only [Act.eval] at h1
  unfold yielded
  rw [hj]
  simp only [Option.bind_some]
  cases h2 : a.tmps[t]? with
  | none => rfl
  | some v => simp [h2] at h1; rw [h1]; rfl
theorem sl_nu {j t : Nat} {c : Bool} (hg : o.guard = some (j, c)) (hj : (ops[j]?).bind (·.dst) = some t) (hb : evn n f (.tmp t) = undef) (h : SL r P n ops Q rest (updo f o.dst undef) w) : SL r P n ops Q (o :: rest) f w :=
  ⟨fun a ha => wpListIn_step fun _ hK => by
    rw [if_neg (by simp [Region.wanted, hg, yu ha hj hb])]
    exact ⟨fun _ _ => trivial, hK _ _ (h.out _ (ha.put _ _))⟩⟩
theorem sl_y (hg : o.guard = none) (h : OY P n o f w (SL r P n ops Q rest)) : SL r P n ops Q (o :: rest) f w :=
  ⟨fun a ha => wpListIn_plain hg fun _ hK => h.wpIn a ha _ _ fun a' _ w' ha' hs => hK a' w' (hs.out a' ha')⟩
/-! The same for a tail. -/
theorem tl_nil (h : Q .normal f w) : TL P n ops Q [] f w := ⟨fun _ ha => wpList_nil ⟨f, ha, h⟩⟩
theorem tl_op (hg : o.guard = none) (h : OK P n o f w (TL P n ops Q rest)) : TL P n ops Q (o :: rest) f w :=
  ⟨fun a ha => wpList_plain hg fun _ hK => h.wp a ha _ _ fun a' _ w' ha' hs => hK a' w' (hs.out a' ha')⟩
theorem tl_v {v : Value} (hg : o.guard = none) (hr : RV P n f w o v) (h : TL P n ops Q rest (updo f o.dst v) w) : TL P n ops Q (o :: rest) f w := tl_op hg (ok_v hr h)
theorem tl_g {j t : Nat} {b c : Bool} (hg : o.guard = some (j, c)) (hj : (ops[j]?).bind (·.dst) = some t) (hb : evn n f (.tmp t) = .bool b) (hc : b = c) (h : OK P n o f w (TL P n ops Q rest)) : TL P n ops Q (o :: rest) f w :=
  ⟨fun a ha => wpList_step fun _ hK => by
    rw [if_pos (by simp [Region.wanted, hg, yl ha hj hb, hc])]
    exact h.wp a ha _ _ fun a' _ w' ha' hs => hK a' w' (hs.out a' ha')⟩
theorem tl_vg {v : Value} {j t : Nat} {b c : Bool} (hg : o.guard = some (j, c)) (hj : (ops[j]?).bind (·.dst) = some t) (hb : evn n f (.tmp t) = .bool b) (hc : b = c) (hr : RV P n f w o v) (h : TL P n ops Q rest (updo f o.dst v) w) : TL P n ops Q (o :: rest) f w :=
  tl_g hg hj hb hc (ok_v hr h)
theorem tl_no {j t : Nat} {b c : Bool} (hg : o.guard = some (j, c)) (hj : (ops[j]?).bind (·.dst) = some t) (hb : evn n f (.tmp t) = .bool b) (hc : b = !c) (h : TL P n ops Q rest (updo f o.dst undef) w) : TL P n ops Q (o :: rest) f w :=
  ⟨fun a ha => wpList_step fun _ hK => by
    rw [if_neg (by simp [Region.wanted, hg, yl ha hj hb, hc])]
    exact hK _ _ (h.out _ (ha.put _ _))⟩
theorem tl_nu {j t : Nat} {c : Bool} (hg : o.guard = some (j, c)) (hj : (ops[j]?).bind (·.dst) = some t) (hb : evn n f (.tmp t) = undef) (h : TL P n ops Q rest (updo f o.dst undef) w) : TL P n ops Q (o :: rest) f w :=
  ⟨fun a ha => wpList_step fun _ hK => by
    rw [if_neg (by simp [Region.wanted, hg, yu ha hj hb])]
    exact hK _ _ (h.out _ (ha.put _ _))⟩
/-! A region that draws its order: operations that yield values, then a tail that keeps its order. -/
structure ST (P : Program) (n : Nat) (ops : Array Oper) (w : World) (K : Env → Prop) (l : List Oper) (f : Env) : Prop where
  out : ∀ a, FM n f a → wpStill P ops w (fun a => ∃ f, FM n f a ∧ K f) l a
variable {J : Env → Prop}
theorem st_nil (h : J f) : ST P n ops w J [] f := ⟨fun _ ha => wpStill_nil ⟨f, ha, h⟩⟩
theorem RV.still {v : Value} (hr : RV P n f w o v) {a : Act} (ha : FM n f a) {K : Act → Prop} (h : K (a.put o.dst v)) : o.still P a w K := by
  unfold Oper.still
  rw [show a.eval = evn n f from funext ha.ev, hr]
  exact ⟨rfl, h⟩
theorem st_v {v : Value} (hg : o.guard = none) (hr : RV P n f w o v) (h : ST P n ops w J rest (updo f o.dst v)) : ST P n ops w J (o :: rest) f :=
  ⟨fun a ha => wpStill_step fun K hK => by
    rw [if_pos (by simp [Region.wanted, hg])]
    exact hr.still ha (hK _ (h.out _ (ha.put _ _)))⟩
theorem st_vg {v : Value} {j t : Nat} {b c : Bool} (hg : o.guard = some (j, c)) (hj : (ops[j]?).bind (·.dst) = some t) (hb : evn n f (.tmp t) = .bool b) (hc : b = c) (hr : RV P n f w o v) (h : ST P n ops w J rest (updo f o.dst v)) : ST P n ops w J (o :: rest) f :=
  ⟨fun a ha => wpStill_step fun K hK => by
    rw [if_pos (by simp [Region.wanted, hg, yl ha hj hb, hc])]
    exact hr.still ha (hK _ (h.out _ (ha.put _ _)))⟩
theorem st_no {j t : Nat} {b c : Bool} (hg : o.guard = some (j, c)) (hj : (ops[j]?).bind (·.dst) = some t) (hb : evn n f (.tmp t) = .bool b) (hc : b = !c) (h : ST P n ops w J rest (updo f o.dst undef)) : ST P n ops w J (o :: rest) f :=
  ⟨fun a ha => wpStill_step fun K hK => by
    rw [if_neg (by simp [Region.wanted, hg, yl ha hj hb, hc])]
    exact hK _ (h.out _ (ha.put _ _))⟩
theorem st_nu {j t : Nat} {c : Bool} (hg : o.guard = some (j, c)) (hj : (ops[j]?).bind (·.dst) = some t) (hb : evn n f (.tmp t) = undef) (h : ST P n ops w J rest (updo f o.dst undef)) : ST P n ops w J (o :: rest) f :=
  ⟨fun a ha => wpStill_step fun K hK => by
    rw [if_neg (by simp [Region.wanted, hg, yu ha hj hb])]
    exact hK _ (h.out _ (ha.put _ _))⟩
theorem wpStill_mono {K K' : Act → Prop} (hk : ∀ a, K a → K' a) : ∀ (l : List Oper) (a : Act), wpStill P ops w K l a → wpStill P ops w K' l a
  | [], a, h => hk a h
  | o :: l, a, h => by
    unfold wpStill at h ⊢
    split
    · rename_i hw; rw [if_pos hw] at h; exact Oper.still_mono (fun a => wpStill_mono hk l a) h
    · rename_i hw; rw [if_neg hw] at h; exact wpStill_mono hk l _ h
theorem cw_still {id : Nat} {l : List Oper} (hm : P.follows .mixedOrders = true) (hB : Region.lexB .any l.toArray = true)
    (h : ∀ wd : World, wd = w.drew → ST P n l.toArray wd (fun f => Q .normal f wd) l f) : CW none P n (.region id l.toArray true) Q f w :=
  ⟨fun a ha => wpIn_wide.2 (wp_region_still_lit hm hB (wpStill_mono (fun _ h => h) _ _ ((h _ rfl).out a ha)))⟩
theorem cw_tail (m : Nat) {id : Nat} {l : List Oper} (hm : P.follows .mixedOrders = true) (hB : Region.lexTailB .any l.toArray m = true)
    (h : ∀ wd : World, wd = w.drew → ST P n l.toArray wd (fun f => TL P n l.toArray Q (l.drop m) f wd) (l.take m) f) : CW none P n (.region id l.toArray true) Q f w :=
  ⟨fun a ha => wpIn_wide.2 (wp_region_still_tail m hm hB (wpStill_mono (fun a ⟨_, hf, hs⟩ => hs.out a hf) _ _ ((h _ rfl).out a ha)))⟩
end
end Go.Proofs.Ytchjcjocihckpaa.G
