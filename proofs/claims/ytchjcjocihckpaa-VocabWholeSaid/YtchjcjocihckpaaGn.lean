/- A range over a function: the iterator's contract, the rounds, the ways out. -/
import Derived.Test.YtchjcjocihckpaaGr
import Derived.RangeFuncFrom
namespace Go.Proofs.Ytchjcjocihckpaa.G
open Go Go.RowKit
/-- What an iterator reads between two rounds lies as it lay. -/
def KF (Fp : Nat → Prop) (W W' : World) : Prop := ∀ b, Fp b → W'.heap[b]? = W.heap[b]?
/-- A function value that hands over one element after another. -/
def SeqC {α : Type} (P : Program) (v : Value) (encs : α → Array Value) (Fp : Nat → Prop) (S Sp : List α → Prop) (N : Nat) (w : World) : Prop :=
  ∃ gf lb, v = .func (.func gf) #[] lb ∧ Cal P gf ∧ (∀ b, Fp b → b < w.heap.size) ∧ SeqStopsK Fence.wide 0 P gf lb encs (KF Fp) S Sp N w
/-- How a round may end. -/
@[reducible] def bq {α : Type} (Fp : Nat → Prop) (I : List α → World → Prop) (X : Code → List α → World → Prop) (xs : List α) (W : World) : Exit → Env → World → Prop
  | .normal, _, W' => KeepsOthers W W' ∧ KF Fp W W' ∧ I xs W'
  | .ret, _, W' => KeepsOthers W W' ∧ X .ret xs W'
  | .exit id, _, W' => KeepsOthers W W' ∧ X (.exit id) xs W'
  | _, _, _ => False
/-- What a round begins with. -/
def Asg {α : Type} (P : Program) (n : Nat) (f : Env) (ps : Array Tmp) (encs : α → Array Value) (assign : Code) (e1 : α → Env) : Prop :=
  ∀ a, FM n f a → ∃ a1 : α → Act, (∀ x, FM n (e1 x) (a1 x)) ∧ ∀ (l : Nat) (x : α) (W : World) (K : Act → World → Prop), K (a1 x) W →
    assign.wpIn (Fr (some l)) 0 P (Exit.then K (fun _ _ _ => False)) { tmps := (ps.zip (encs x)).foldl (fun t (p, v) => t.setIfInBounds p v) a.tmps, defers := [] } W
section
variable {P : Program} {n : Nat} {Q : Exit → Env → World → Prop} {f : Env} {w : World}
theorem FM.set {a : Act} (h : FM n f a) (p : Nat) (v : Value) : FM n (upd (nm f []) p v) { tmps := a.tmps.setIfInBounds p v, defers := [] } := by
  have h2 : FM n (nm f []) { a with defers := [] } := ⟨rfl, h.sz, h.gt⟩
  exact h2.put (some p) v
theorem asg_skip {α : Type} {p : Nat} {enc : α → Value} : Asg P n f #[p] (fun x => #[enc x]) .skip fun x => upd (nm f []) p (enc x) :=
  fun a ha => ⟨fun x => { tmps := a.tmps.setIfInBounds p (enc x), defers := [] }, fun x => ha.set p (enc x), fun l x W K hK => wpIn_skip (by show K _ W; simpa using hK)⟩
theorem asg_one {α : Type} {p d id : Nat} {ty : TypeId} {pos : String} {af : Array Edge} {enc : α → Value} (hp : p < n) :
    Asg P n f #[p] (fun x => #[enc x]) (.region id #[⟨some d, .assign (.tmp p), ty, pos, af, none⟩] false) fun x => upd (upd (nm f []) p (enc x)) d (enc x) :=
  fun a ha => ⟨fun x => ({ tmps := a.tmps.setIfInBounds p (enc x), defers := [] } : Act).put (some d) (enc x), fun x => (ha.set p (enc x)).put (some d) (enc x), fun l x W K hK => by
    have hF := ha.set p (enc x)
    have hb : Nat.blt p n = true := by simpa using hp
    have hev : evn n (upd (nm f []) p (enc x)) (.tmp p) = enc x := by
      simp only [evn, hb, upd]; simp
    have hr : RV P n (upd (nm f []) p (enc x)) W ⟨some d, .assign (.tmp p), ty, pos, af, none⟩ (enc x) := by
      unfold RV; unfold execOp; simp [hev]
    refine wpIn_region_lit (l := [⟨some d, .assign (.tmp p), ty, pos, af, none⟩]) (wpListIn_plain rfl fun K' hK' => ?_)
    have e : (#[p].zip #[enc x]).foldl (fun t (q : Tmp × Value) => t.setIfInBounds q.1 q.2) a.tmps = a.tmps.setIfInBounds p (enc x) := by simp
    refine ⟨fun _ _ => trivial, ?_⟩
    show Oper.uponIn _ _ _ _ _ _ _ ((Oper.semAt (some l) (Act.eval { tmps := (#[p].zip #[enc x]).foldl (fun t (q : Tmp × Value) => t.setIfInBounds q.1 q.2) a.tmps, defers := [] }) _).run P W)
    rw [e, Oper.semAt_eq _ _ _ (fun c h => by cases h), show Act.eval { tmps := a.tmps.setIfInBounds p (enc x), defers := [] } = evn n (upd (nm f []) p (enc x)) from funext hF.ev, hr]
    exact hK' _ _ (wpListIn_nil hK)⟩
theorem cw_rf {α : Type} {g : Operand} {ps : Array Tmp} {assign body : Code} {v : Value} {encs : α → Array Value} {Fp : Nat → Prop} {S Sp : List α → Prop} {N : Nat} {e1 : α → Env}
    (hg : evn n f g = v) (hs : SeqC P v encs Fp S Sp N w) (hps : ∀ x, (encs x).size = ps.size) (has : Asg P n f ps encs assign e1)
    (I : List α → World → Prop) (X : Code → List α → World → Prop) (hI : OwnFrom w.heap.size I) (hX : ∀ c, OwnFrom w.heap.size (X c)) (h0 : I [] w)
    (hbody : ∀ (l : Nat) (pre : List α) (x : α) (W : World), I pre W → pre.length < N → CW (some l) P n body (bq Fp I X (pre ++ [x]) W) (e1 x) W)
    (hdone : ∀ (D : Nat) (xs : List α) (W : World), w.heap.size ≤ D → S xs → I xs W → W.heap[D]? = some (.deferred (some [])) → Q .normal (nm f (D :: f.ds)) W)
    (hret : ∀ (D : Nat) (pre : List α) (W : World), w.heap.size ≤ D → Sp pre → X .ret pre W → W.heap[D]? = some (.deferred (some [])) → Q .ret (nm f (D :: f.ds)) W)
    (hexit : ∀ (D : Nat) (id : Nat) (pre : List α) (W : World), w.heap.size ≤ D → Sp pre → X (.exit id) pre W → W.heap[D]? = some (.deferred (some [])) → Q (.exit id) (nm f (D :: f.ds)) W)
    (hother : ∀ c pre W, X c pre W → c = .ret ∨ ∃ id, c = .exit id) : CW none P n (.rangeFunc g ps assign body) Q f w := by
  refine ⟨fun a ha => ?_⟩
  obtain ⟨gf, lb, rfl, hc, hlt, hseq⟩ := hs
  obtain ⟨a1, hf1, has⟩ := has a ha
  obtain ⟨fn, hfn, hnn, hnb⟩ := hc
  have eg : ∀ (args : Array Value) (w : World), (callFunc gf args).run P w = .ok (.enter gf args) w := fun args w => by
    have hn' : ¬ fn.name = "runtime.NumGoroutine" := by simpa using hnn
    have hb' : ¬ fn.body = none := fun e => by simp [e] at hnb
    simp [callFunc, hfn, hn', hb']
  have hfm : ∀ D : Nat, FM n (nm f (D :: f.ds)) { a with defers := { target := .collected D, args := #[] } :: a.defers } := fun D => ⟨by simp [nm, ha.df, mark], ha.sz, ha.gt⟩
  have key : (Code.rangeFunc g ps assign body).wpIn Fence.wide 1 P (lift n Q) a w := by
    refine wpIn_rangeFunc_ownF rfl (by decide) ((ha.ev g).trans hg) trivial eg hseq (fun h k b hb => (k b hb).trans (h b hb))
      (fun W l o o' hl _ _ _ b hb => World.putObj_heap_other (fun e => by have := hlt b hb; omega)) (Below.refl _ w) hps I X hI hX h0 a1 (fun l x W K hK => has l x W K hK) ?_ ?_ ?_
    · intro l pre x W hi hl
      refine wpIn_mono ((hbody l pre x W hi hl).out _ (hf1 x)) fun e a' w' h => ?_
      cases e with
      | normal => obtain ⟨_, _, h⟩ := h; exact h
      | ret => obtain ⟨_, _, h⟩ := h; exact h
      | exit id => obtain ⟨_, _, h⟩ := h; exact h
      | goto t => obtain ⟨_, _, h⟩ := h; exact h.elim
      | panic c => exact h.elim
      | outgrown => exact h.elim
    · intro D xs W hD hS hi hk
      exact ⟨_, hfm D, hdone D xs W hD hS hi hk⟩
    · intro D c pre W hD hS hx hk
      rcases hother c pre W hx with rfl | ⟨id, rfl⟩
      · exact wpIn_ret ⟨_, hfm D, hret D pre W hD hS hx hk⟩
      · exact wpIn_exit ⟨_, hfm D, hexit D id pre W hD hS hx hk⟩
  exact wpIn_wide.2 (wpIn_wide.1 key)
/-- Whatever is no cells and none of some blocks lies as it lay. -/
structure KO (L : List Nat) (W W' : World) : Prop where
  size : W.heap.size ≤ W'.heap.size
  same : ∀ k o, W.heap[k]? = some o → o.isCells = false → k ∉ L → W'.heap[k]? = some o
theorem KO.of_chg {L : List Nat} {W W' : World} {T : Nat → Prop} (h : Chg T W W') (ht : ∀ b, b < W.heap.size → T b → b ∈ L) : KO L W W' :=
  ⟨h.size, fun k _ hk _ hn => h.get hk fun e => hn (ht k (lt_of_blk hk) e)⟩
theorem KO.keeps {L : List Nat} {W W' : World} (h : KO L W W') (hl : ∀ b ∈ L, ∃ cs t fr, W.heap[b]? = some (.cells cs t fr)) : KeepsOthers W W' :=
  ⟨h.size, fun k o hk ho => h.same k o hk ho fun hm => by
    obtain ⟨cs, t, fr, e⟩ := hl k hm
    rw [hk] at e; cases e; cases ho⟩
theorem cells_nil : ∀ b ∈ ([] : List Nat), ∃ cs t fr, w.heap[b]? = some (.cells cs t fr) := fun _ h => nomatch h
theorem cells_cons {b : Nat} {L : List Nat} {cs : Array Value} {t : TypeId} {fr : Nat × Nat} (h : w.heap[b]? = some (.cells cs t fr)) (hl : ∀ b ∈ L, ∃ cs t fr, w.heap[b]? = some (.cells cs t fr)) : ∀ c ∈ b :: L, ∃ cs t fr, w.heap[c]? = some (.cells cs t fr) :=
  fun c hc => by
    rcases List.mem_cons.1 hc with rfl | hc
    · exact ⟨_, _, _, h⟩
    · exact hl c hc
theorem own_cells {B b : Nat} {W W' : World} {row : Option Nat} {cs : Array Value} {t : TypeId} {fr : Nat × Nat} (h : W.heap[b]? = some (.cells cs t fr)) (hg : W.grownBy W' row) (hr : ∀ r, row = some r → B ≤ r ∧ ∃ o : Obj, W.heap[r]? = some o ∧ o.isCells = false) : W'.heap[b]? = some (.cells cs t fr) :=
  (Chg.of_grown hg).get h fun e => by
    obtain ⟨_, o, ho, hc⟩ := hr b e.symm
    rw [h] at ho; cases ho; cases hc
theorem own_low {B b : Nat} {W W' : World} {row : Option Nat} {o : Obj} (h : W.heap[b]? = some o) (hb : b < B) (hg : W.grownBy W' row) (hr : ∀ r, row = some r → B ≤ r ∧ ∃ o : Obj, W.heap[r]? = some o ∧ o.isCells = false) : W'.heap[b]? = some o :=
  (Chg.of_grown hg).get h fun e => by have := (hr b e.symm).1; omega
/-- What says no more of the world than that it has grown is as good behind a turn of the book-keeping. -/
theorem own_ext {β : Type} {w0 : World} {p : β → Prop} : OwnFrom w0.heap.size fun (s : β) (W : World) => Ext w0 W ∧ p s :=
  fun _ _ _ _ ⟨x, hp⟩ hg hr => ⟨Chg.of_new x (Chg.of_grown hg) fun b e => (hr b e.symm).1, hp⟩
end
end Go.Proofs.Ytchjcjocihckpaa.G
